/- Lemmas and walks for TableRuns, packed. -/
import Derived.Test.YtjnpkcabkccaoaaGreatQ24
import Derived.Test.YtjnpkcabkccaoaaGreatQ22
import Derived.Test.YtjnpkcabkccaoaaGreatQ25
set_option maxRecDepth 100000
set_option maxHeartbeats 16000000
namespace Go.Proofs.YtjnpkcabkccaoaaGreat
open Go.RowKit
section
theorem pslice_tail (A : Option Addr) (m c : Nat) (hm : 1 ≤ m) (hc : m ≤ c) : ∃ A' : Option Addr, (∀ w : World, (Instr.slice 37 (.slice A m c) (some (.int .i64 1)) none none).run Tryz.prog w = .ok (.slice A' (m - 1) (c - 1)) w) ∧
  (∀ w : World, (Instr.sliceAt 37 (.slice A m c) (some (.int .i64 1)) none none).run Tryz.prog w = .ok (.slice A' (m - 1) (c - 1)) w) ∧
  (∀ (w : World) (xs : List PairV), PairsIn w A m xs → PairsIn w A' (m - 1) xs.tail) := by
 have hel : Tryz.prog.elem 37 = 59 := by kernel_rfl
 have hu : Tryz.prog.underlying 37 = some (.slice (Tryz.prog.elem 37)) := by rw [hel]; exact Tryz.underlying37
 have hsz : (Tryz.prog.info? 59).map (·.size) = some 3 := isPr
 have h1 : ∀ w : World, (Instr.slice 37 (.slice A m c) (some (.int .i64 1)) none none).run Tryz.prog w = .ok (.slice (if c = 1 then A else A.map (·.add 3)) (m - 1) (c - 1)) w := fun w => by
  have := run_slice_l (P := Tryz.prog) w 37 A m c hu .i64 1 (by omega) (by omega)
  rw [hel, run_size hsz w] at this
  rw [this]
  by_cases h : c = 1
  ·simp [Result.andThen, sliced, h]
  ·simp [Result.andThen, sliced, h]
 refine ⟨if c = 1 then A else A.map (·.add 3), h1, fun w => ?_, fun w xs hX => ?_⟩
 ·rw [run_sliceAt_slice w _ _ _ _ _ hu]; exact h1 w
 ·have hl : xs.tail.length = m - 1 := by rw [List.length_tail, hX.1]
  by_cases h : c = 1
  ·obtain rfl : m = 1 := by omega
   have e : xs.tail = [] := List.eq_nil_of_length_eq_zero hl
   rw [e]
   exact RowsIn.nil _ _ _ _ _
  ·obtain ⟨b, off, rfl, hr⟩ := hX.2.2 (by omega)
   have e2 : (some ⟨b, off, none⟩ : Option Addr).map (fun x => x.add 3) = some ⟨b, off + 3, none⟩ := by simp only [Option.map_some, Addr.add_mid]
   rw [if_neg h, e2]
   refine ⟨hl, fun a ha => hX.2.1 a (List.mem_of_mem_tail ha), fun _ => ⟨b, off + 3, rfl, fun i a ha => ?_⟩⟩
   have := hr (i + 1) a (by rw [← ha, List.getElem?_tail])
   rwa [show off + (i + 1) * 3 = off + 3 + i * 3 by omega] at this
def SmallP (p : PairV) : Prop := p.kN ≤ 1000000000000 ∧ p.vN ≤ 1000000000000
structure MAt (w wr : World) (L : List PairD) (T : Nat) (A1 : Option Addr) (n1 c1 : Nat) (xs : List PairV) (B1 : Option Addr) (m1 d1 : Nat) (ys : List PairV) (A4 : Option Addr) (k c4 : Nat) (zs : List PairV) : Prop where
 xin : PairsIn w A1 n1 xs
 xcap : n1 ≤ c1
 yin : PairsIn w B1 m1 ys
 ycap : m1 ≤ d1
 row : PRow w.heap.size wr A4 k c4 zs
 eq : L = zs.map PairV.d ++ mergeD (xs.map PairV.d) (ys.map PairV.d)
 sum : n1 + m1 + k ≤ T
 xs_ : ∀ p ∈ xs, SmallP p
 ys_ : ∀ p ∈ ys, SmallP p
 below : Below w.heap.size w wr
section
variable {w wr : World} {L : List PairD} {T n1 c1 m1 d1 k c4 : Nat} {A1 B1 A4 : Option Addr} {xs ys zs : List PairV}
theorem MAt.under {w' : World} (h : MAt w wr L T A1 n1 c1 xs B1 m1 d1 ys A4 k c4 zs) (hb : Below wr.heap.size wr w') : MAt w w' L T A1 n1 c1 xs B1 m1 d1 ys A4 k c4 zs :=
 ⟨h.xin, h.xcap, h.yin, h.ycap, h.row.under hb, h.eq, h.sum, h.xs_, h.ys_, Below.then_ h.below hb⟩
end
theorem merge_lt (x y : PairD) (xt yt : List PairD) (h : lex x.key y.key < 0) : mergeD (x :: xt) (y :: yt) = x :: mergeD xt (y :: yt) := by rw [mergeD, if_pos h]
theorem merge_eq0 (x y : PairD) (xt yt : List PairD) (h : lex x.key y.key = 0) : mergeD (x :: xt) (y :: yt) = (if y.gone then [] else [y]) ++ mergeD xt yt := by rw [mergeD, if_neg (by omega), restP, if_pos h]
theorem merge_gt (x y : PairD) (xt yt : List PairD) (h : 0 ≤ lex x.key y.key) (h0 : ¬ lex x.key y.key = 0) : mergeD (x :: xt) (y :: yt) = (if y.gone then [] else [y]) ++ mergeD (x :: xt) yt := by rw [mergeD, if_neg (by omega), restP, if_neg h0]
theorem merge_nil (y : PairD) (yt : List PairD) : mergeD [] (y :: yt) = (if y.gone then [] else [y]) ++ mergeD [] yt := by rw [mergeD]
def PMergePost (w : World) (L : List PairD) (e : Ending) (w' : World) : Prop :=
 ∃ (A : Option Addr) (k c : Nat) (zs : List PairV), e = .returned (.slice A k c) ∧ zs.map PairV.d = L ∧ PRow w.heap.size w' A k c zs ∧ Below w.heap.size w w'
theorem made_row (w w0 : World) (n : Nat) (hn : n ≤ maxLen) (hb : w0.heap.size ≤ w.heap.size) (z : Value) : PRow w0.heap.size (w.alloc (.cells (madeCells z.cells (n * 3)) 59)) (some ⟨w.heap.size, 0, none⟩) 0 n [] :=
 ⟨rfl, Nat.zero_le _, by simp; omega, World.ownsRow_made w _ n hb hn (by rw [size_madeCells]), by simp⟩
attribute [local go_sem ↓] loadPr_fold mkPrs1_fold
theorem PMerge_any (w : World) (A : Option Addr) (n c : Nat) (xs : List PairV) (B : Option Addr) (m d : Nat) (ys : List PairV) (hX : PairsIn w A n xs) (hY : PairsIn w B m ys) (hxc : n ≤ c) (hyc : m ≤ d) (hn : n ≤ 500000000000) (hm : m ≤ 500000000000) (hxs : ∀ p ∈ xs, SmallP p) (hys : ∀ p ∈ ys, SmallP p) :
  Calls Tryz.prog 30 #[.slice A n c, .slice B m d] w (PMergePost w (mergeD (xs.map PairV.d) (ys.map PairV.d))) := by
 have n9 : (n : Int) ≤ 500000000000 := by omega
 have m9 : (m : Int) ≤ 500000000000 := by omega
 have HN := hide hn
 have HM := hide hm
 obtain ⟨L, hL⟩ : ∃ L, L = mergeD (xs.map PairV.d) (ys.map PairV.d) := ⟨_, rfl⟩
 obtain ⟨ii, zz, hii, hzz, hs3, hbb, hzs⟩ : ∃ i z, Tryz.prog.info? 59 = some i ∧ i.zero = some z ∧ i.size = 3 ∧ i.bytes = 56 ∧ z.cells.size = 3 := by
  have hi := pr_infoR
  cases hq : Tryz.prog.info? 59 with
  | none => simp [hq] at hi
  | some i =>
   cases hz : i.zero with
   | none => simp [hq, hz] at hi
   | some z =>
    simp [hq, hz] at hi
    exact ⟨i, z, rfl, hz, hi.1, hi.2.1, hi.2.2⟩
 have hnm : n + m ≤ 1000000000000 := by omega
 have hmr := run_make_rowN (P := Tryz.prog) 37 59 ii zz Tryz.underlying37 hii hzz .i64 .i64 0 (n + m) (Nat.zero_le _) (by rw [hbb]; omega) (by omega) w
 rw [hs3] at hmr
 obtain ⟨w1, hw1⟩ : ∃ z, z = w.alloc (.cells (madeCells zz.cells ((n + m) * 3)) 59) := ⟨_, rfl⟩
 have hmk : (Instr.makeSlice 37 (.int .i64 0) (.int .i64 ((n : Int) + (m : Int)))).run Tryz.prog w = .ok (.slice (some ⟨w.heap.size, 0, none⟩) 0 (n + m)) w1 := by
  rw [hw1, ← hmr]
  congr 2
 have M1 := hide (show MAt w w1 L (n + m) A n c xs B m d ys (some ⟨w.heap.size, 0, none⟩) 0 (n + m) [] from
  ⟨hX, hxc, hY, hyc, by rw [hw1]; exact made_row w w (n + m) (by unfold maxLen; omega) (Nat.le_refl _) zz, by rw [hL]; rfl, Nat.le_refl _, hxs, hys, by rw [hw1]; exact below_alloc (Below.refl _ _) _⟩)
 rw [← hL]
 clear hL hX hY hxc hyc hn hm hxs hys hii hzz hs3 hbb hzs hmr hw1 hnm
 go_enter Tryz.func30, Tryz.ntmps30
 go_wp2_with fail
 clear hmk
 go_loopw [0, 1, 5] (fun v0 v1 v5 wr => ∃ (A1 : Option Addr) (n1 c1 : Nat) (xs : List PairV) (B1 : Option Addr) (m1 d1 : Nat) (ys : List PairV) (A4 : Option Addr) (k c4 : Nat) (zs : List PairV), v0 = .slice A1 n1 c1 ∧ v1 = .slice B1 m1 d1 ∧ v5 = .slice A4 k c4 ∧ MAt w wr L (n + m) A1 n1 c1 xs B1 m1 d1 ys A4 k c4 zs) (fun v0 v1 _ _ => lenOfV v0 + lenOfV v1)
 case atStart => exact ⟨A, n, c, xs, B, m, d, ys, _, 0, n + m, [], rfl, rfl, rfl, M1.out⟩
 case round =>
  clear M1
  obtain ⟨A1, n1, c1, xs, B1, m1, d1, ys, A4, k, c4, zs, rfl, rfl, rfl, ha⟩ := hrel
  have HA := hide ha
  have HS := hide (show n1 + m1 + k ≤ 1000000000000 by have := ha.sum; have := HN.out; have := HM.out; omega)
  clear ha
  have n0 : (0 : Int) ≤ (n1 : Int) := by omega
  have m0 : (0 : Int) ≤ (m1 : Int) := by omega
  rcases Nat.eq_zero_or_pos n1 with h1 | h1
  ·subst h1
   have hxe : xs = [] := List.eq_nil_of_length_eq_zero HA.out.xin.1
   subst hxe
   rcases Nat.eq_zero_or_pos m1 with h2 | h2
   ·subst h2
    have hye : ys = [] := List.eq_nil_of_length_eq_zero HA.out.yin.1
    subst hye
    go_wp2_with fail
    go_ret
    exact ⟨A4, k, c4, zs, rfl, by rw [HA.out.eq]; simp [mergeD_nil], HA.out.row, HA.out.below⟩
   ·obtain ⟨yb, yo, hya, hyr⟩ := HA.out.yin.2.2 h2
    subst hya
    obtain ⟨y, yt, hye⟩ : ∃ y yt, ys = y :: yt := by
     cases ys with
     | nil => have := HA.out.yin.1; simp at this; omega
     | cons y yt => exact ⟨y, yt, rfl⟩
    subst hye
    have YR := hide (show wr.rangeAt yb yo y.cells by have := range_under (hyr 0 y rfl) HA.out.below; simpa using this)
    have YF := hide ((HA.out.yin.2.1 y (by simp)).below HA.out.below)
    have YS := hide (HA.out.ys_ y (by simp))
    obtain ⟨B2, hsy, hsy2, hyt⟩ := pslice_tail (some ⟨yb, yo, none⟩) m1 d1 h2 HA.out.ycap
    have HYT := hide (hyt w _ HA.out.yin)
    clear hyt hyr
    have mb : ((m1 : Int) == 0) = false := by simp; omega
    have BC := hide (Below.refl wr.heap.size wr)
    go_wp2_with fail
    refine wp_region_held_drew (S := fun w' => Below wr.heap.size wr w') (by kernel_rfl) ((Below.refl _ _).drew) (fun hSF0 => ?_)
    obtain ⟨wrd, hwF⟩ : ∃ x, x = wr.drew := ⟨_, rfl⟩
    rw [← hwF] at hSF0 ⊢
    clear hwF
    refine tq 0 rfl hSF0 ?_
    refine tq 1 rfl hSF0 ?_
    refine tq 2 rfl hSF0 ?_
    refine tq 3 rfl hSF0 ?_
    refine tq 4 rfl hSF0 ?_
    refine tq 5 rfl hSF0 ?_
    refine tq 6 rfl hSF0 ?_
    refine tq 7 rfl hSF0 ?_
    refine tm 8 rfl hSF0 ?_
    refine tm 9 rfl hSF0 ?_
    refine tm 10 rfl hSF0 ?_
    refine tm 11 rfl hSF0 ?_
    refine tm 12 rfl hSF0 ?_
    refine tm 13 rfl hSF0 ?_
    refine tm 14 rfl hSF0 ?_
    refine tm 15 rfl hSF0 ?_
    refine tq 16 rfl hSF0 ?_
    refine tq 17 rfl hSF0 ?_
    refine tq 18 rfl hSF0 ?_
    refine wpAnyH_done (by kernel_rfl) ?_ _
    have BC := hide (Below.then_ BC.out hSF0)
    go_wp2_with fail
    refine wp_region_held_drew (S := fun w' => Below wrd.heap.size wrd w') (by kernel_rfl) ((Below.refl _ _).drew) (fun hSH0 => ?_)
    obtain ⟨wrdd, hwH⟩ : ∃ x, x = wrd.drew := ⟨_, rfl⟩
    rw [← hwH] at hSH0 ⊢
    clear hwH
    refine tq 0 rfl hSH0 ?_
    refine tq 1 rfl hSH0 ?_
    refine tq 2 rfl hSH0 ?_
    refine tq 3 rfl hSH0 ?_
    refine tm 4 rfl hSH0 ?_
    refine tm 5 rfl hSH0 ?_
    refine tm 6 rfl hSH0 ?_
    refine tm 7 rfl hSH0 ?_
    refine tm 8 rfl hSH0 ?_
    refine tm 9 rfl hSH0 ?_
    refine tm 10 rfl hSH0 ?_
    refine tm 11 rfl hSH0 ?_
    refine tq 12 rfl hSH0 ?_
    refine tq 13 rfl hSH0 ?_
    refine wpAnyH_done (by kernel_rfl) ?_ _
    have BC := hide (Below.then_ BC.out hSH0)
    have y2 : wrdd.cell? ⟨yb, yo + 2, none⟩ = some (.bool y.gone) := range_under YR.out BC.out 2 (.bool y.gone) rfl
    cases hg : y.gone with
    | false =>
     rw [hg] at y2
     have HG := hide (show y.d.gone = false from hg)
     clear hg
     have hld := loadPr_run wrdd yb yo y (range_under YR.out BC.out)
     go_wp2_with fail
     refine (copied_any wrdd y (YF.out.below BC.out) YS.out).mono ?_
     rintro e wb ⟨V, rfl, hd, hf, fk, fv, bb⟩
     have HVD := hide hd
     have BB := hide bb
     obtain ⟨wc, hwc⟩ : ∃ z, z = wb.alloc (.cells V.cells.toArray 59) := ⟨_, rfl⟩
     have hmks := mkPrs1_run wb V
     rw [← hwc] at hmks
     have Bc := hide (show Below wb.heap.size wb wc by rw [hwc]; exact below_alloc (Below.refl _ _) _)
     have NB := hide (show wc.rangeAt wb.heap.size 0 V.cells by rw [hwc]; exact (Blk.new wb 59 V.cells).whole)
     have MC := hide (((HA.out.under BC.out).under bb).under Bc.out)
     have KC := hide (show KeepP wc V (fun i => i < w.heap.size ∨ (Value.slice A4 k c4).ownBlock = some i) from KeepP.new (hf.below Bc.out) fk fv fun i hi => by
      have h7 := (HA.out.under BC.out).below.size
      rcases hi with hi | hi
      ·omega
      ·exact ((HA.out.under BC.out).row.lt i hi).2)
     clear hwc hd hf fk fv bb hld
     go_wp2_with (at_builtin; refine wpListRow rfl 75 rfl _ _ 37 rfl 59 3 56 Tryz.underlying37 pr_infoR (by decide) w.heap.size (.slice A4 k c4) k _ (by rfl) MC.out.row.row MC.out.row.low wb.heap.size 0 1 1 V.cells (by rfl) rfl NB.out (PairV.one V) (by have := HS.out; omega) (by decide) ?_; intro A9 c9 w9 q1 q2 q3 q4; have R9 := hide (MC.out.row.app KC.out q1 q2 q3 q4); have O9 := hide (show Below w.heap.size w w9 from MC.out.below.trans (q4.below MC.out.below.size (fun i hi e => by have := (MC.out.row.lt i e).1; omega))); clear q1 q2 q3 q4 hmks; simp only [pU])
     exact ⟨⟨A1, 0, c1, [], B2, (m1 - 1), (d1 - 1), yt, A9, (k + 1), c9, (zs ++ [V]), rfl, rfl, rfl, ⟨HA.out.xin, by have := HA.out.xcap; omega, HYT.out, by have := HA.out.ycap; omega, R9.out, by rw [HA.out.eq, show ([] : List PairV).map PairV.d = [] from rfl, List.map_cons (l := yt), merge_nil]; simp [HG.out, HVD.out], by have := HA.out.sum; omega, fun p hp => HA.out.xs_ p (by first | exact hp | simp [hp]), fun p hp => HA.out.ys_ p (by first | exact hp | simp [hp]), O9.out⟩⟩, by simp [lenOfV]; omega⟩
    | true =>
     rw [hg] at y2
     have HG := hide (show y.d.gone = true from hg)
     clear hg
     go_wp2_with fail
     exact ⟨⟨A1, 0, c1, [], B2, (m1 - 1), (d1 - 1), yt, A4, k, c4, zs, rfl, rfl, rfl, ⟨HA.out.xin, by have := HA.out.xcap; omega, HYT.out, by have := HA.out.ycap; omega, (HA.out.under BC.out).row, by rw [HA.out.eq, show ([] : List PairV).map PairV.d = [] from rfl, List.map_cons (l := yt), merge_nil]; simp [HG.out], by have := HA.out.sum; omega, fun p hp => HA.out.xs_ p (by first | exact hp | simp [hp]), fun p hp => HA.out.ys_ p (by first | exact hp | simp [hp]), (HA.out.under BC.out).below⟩⟩, by simp [lenOfV]; omega⟩
  ·obtain ⟨xb, xo, hxa, hxr⟩ := HA.out.xin.2.2 h1
   subst hxa
   obtain ⟨x, xt, hxe⟩ : ∃ x xt, xs = x :: xt := by
    cases xs with
    | nil => have := HA.out.xin.1; simp at this; omega
    | cons x xt => exact ⟨x, xt, rfl⟩
   subst hxe
   have XR := hide (show wr.rangeAt xb xo x.cells by have := range_under (hxr 0 x rfl) HA.out.below; simpa using this)
   have XF := hide ((HA.out.xin.2.1 x (by simp)).below HA.out.below)
   have XS := hide (HA.out.xs_ x (by simp))
   obtain ⟨A2, hsx, hsx2, hxt⟩ := pslice_tail (some ⟨xb, xo, none⟩) n1 c1 h1 HA.out.xcap
   have HXT := hide (hxt w _ HA.out.xin)
   clear hxt hxr
   rcases Nat.eq_zero_or_pos m1 with h2 | h2
   ·subst h2
    have hye : ys = [] := List.eq_nil_of_length_eq_zero HA.out.yin.1
    subst hye
    have BC := hide (Below.refl wr.heap.size wr)
    go_wp2_with fail
    refine wp_region_held_drew (S := fun w' => Below wr.heap.size wr w') (by kernel_rfl) ((Below.refl _ _).drew) (fun hSA0 => ?_)
    obtain ⟨wrd, hwA⟩ : ∃ x, x = wr.drew := ⟨_, rfl⟩
    rw [← hwA] at hSA0 ⊢
    clear hwA
    refine tq 0 rfl hSA0 ?_
    refine tq 1 rfl hSA0 ?_
    refine tq 2 rfl hSA0 ?_
    refine tq 3 rfl hSA0 ?_
    refine tm 4 rfl hSA0 ?_
    refine tm 5 rfl hSA0 ?_
    refine tm 6 rfl hSA0 ?_
    refine tm 7 rfl hSA0 ?_
    refine tm 8 rfl hSA0 ?_
    refine tm 9 rfl hSA0 ?_
    refine tm 10 rfl hSA0 ?_
    refine tm 11 rfl hSA0 ?_
    refine tm 12 rfl hSA0 ?_
    refine tm 13 rfl hSA0 ?_
    refine tm 14 rfl hSA0 ?_
    refine tm 15 rfl hSA0 ?_
    refine tm 16 rfl hSA0 ?_
    refine tq 17 rfl hSA0 ?_
    refine tq 18 rfl hSA0 ?_
    refine wpAnyH_done (by kernel_rfl) ?_ _
    have BC := hide (Below.then_ BC.out hSA0)
    have hld := loadPr_run wrd xb xo x (range_under XR.out BC.out)
    go_wp2_with fail
    refine (copied_any wrd x (XF.out.below BC.out) XS.out).mono ?_
    rintro e wb ⟨V, rfl, hd, hf, fk, fv, bb⟩
    have HVD := hide hd
    have BB := hide bb
    obtain ⟨wc, hwc⟩ : ∃ z, z = wb.alloc (.cells V.cells.toArray 59) := ⟨_, rfl⟩
    have hmks := mkPrs1_run wb V
    rw [← hwc] at hmks
    have Bc := hide (show Below wb.heap.size wb wc by rw [hwc]; exact below_alloc (Below.refl _ _) _)
    have NB := hide (show wc.rangeAt wb.heap.size 0 V.cells by rw [hwc]; exact (Blk.new wb 59 V.cells).whole)
    have MC := hide (((HA.out.under BC.out).under bb).under Bc.out)
    have KC := hide (show KeepP wc V (fun i => i < w.heap.size ∨ (Value.slice A4 k c4).ownBlock = some i) from KeepP.new (hf.below Bc.out) fk fv fun i hi => by
     have h7 := (HA.out.under BC.out).below.size
     rcases hi with hi | hi
     ·omega
     ·exact ((HA.out.under BC.out).row.lt i hi).2)
    clear hwc hd hf fk fv bb hld
    go_wp2_with (at_builtin; refine wpListRow rfl 45 rfl _ _ 37 rfl 59 3 56 Tryz.underlying37 pr_infoR (by decide) w.heap.size (.slice A4 k c4) k _ (by rfl) MC.out.row.row MC.out.row.low wb.heap.size 0 1 1 V.cells (by rfl) rfl NB.out (PairV.one V) (by have := HS.out; omega) (by decide) ?_; intro A9 c9 w9 q1 q2 q3 q4; have R9 := hide (MC.out.row.app KC.out q1 q2 q3 q4); have O9 := hide (show Below w.heap.size w w9 from MC.out.below.trans (q4.below MC.out.below.size (fun i hi e => by have := (MC.out.row.lt i e).1; omega))); clear q1 q2 q3 q4 hmks; simp only [pU])
    exact ⟨⟨A2, (n1 - 1), (c1 - 1), xt, B1, 0, d1, [], A9, (k + 1), c9, (zs ++ [V]), rfl, rfl, rfl, ⟨HXT.out, by have := HA.out.xcap; omega, HA.out.yin, by have := HA.out.ycap; omega, R9.out, by rw [HA.out.eq, List.map_append, List.map_cons (l := xt), show ([] : List PairV).map PairV.d = [] from rfl, mergeD_nil]; simp [HVD.out, mergeD_nil], by have := HA.out.sum; omega, fun p hp => HA.out.xs_ p (by first | exact hp | simp [hp]), fun p hp => HA.out.ys_ p (by first | exact hp | simp [hp]), O9.out⟩⟩, by simp [lenOfV]; omega⟩
   ·obtain ⟨yb, yo, hya, hyr⟩ := HA.out.yin.2.2 h2
    subst hya
    obtain ⟨y, yt, hye⟩ : ∃ y yt, ys = y :: yt := by
     cases ys with
     | nil => have := HA.out.yin.1; simp at this; omega
     | cons y yt => exact ⟨y, yt, rfl⟩
    subst hye
    have YR := hide (show wr.rangeAt yb yo y.cells by have := range_under (hyr 0 y rfl) HA.out.below; simpa using this)
    have YF := hide ((HA.out.yin.2.1 y (by simp)).below HA.out.below)
    have YS := hide (HA.out.ys_ y (by simp))
    obtain ⟨B2, hsy, hsy2, hyt⟩ := pslice_tail (some ⟨yb, yo, none⟩) m1 d1 h2 HA.out.ycap
    have HYT := hide (hyt w _ HA.out.yin)
    clear hyt hyr
    have mb : ((m1 : Int) == 0) = false := by simp; omega
    by_cases hlt : lex x.key y.key < 0
    ·have LT := hide hlt
     have lt0 : decide (lex x.key y.key < 0) = true := decide_eq_true hlt
     have BC := hide (Below.refl wr.heap.size wr)
     go_wp2_with fail
     refine wp_region_held_drew (S := fun w' => Below wr.heap.size wr w') (by kernel_rfl) ((Below.refl _ _).drew) (fun hSB0 => ?_)
     obtain ⟨wrd, hwB⟩ : ∃ x, x = wr.drew := ⟨_, rfl⟩
     rw [← hwB] at hSB0 ⊢
     clear hwB
     refine tq 0 rfl hSB0 ?_
     refine tq 1 rfl hSB0 ?_
     refine tq 2 rfl hSB0 ?_
     refine tq 3 rfl hSB0 ?_
     refine tq 4 rfl hSB0 ?_
     refine tq 5 rfl hSB0 ?_
     refine tq 6 rfl hSB0 ?_
     refine tq 7 rfl hSB0 ?_
     refine tq 8 rfl hSB0 ?_
     refine tq 9 rfl hSB0 ?_
     (refine tq 10 rfl hSB0 ?_ (fun w' hSw => by have z := loadPr_run w' xb xo x (range_under (range_under XR.out BC.out) hSw); go_simp; try with_reducible rfl))
     refine tq 11 rfl hSB0 ?_
     refine tq 12 rfl hSB0 ?_
     (refine tq 13 rfl hSB0 ?_ (fun w' hSw => by have z := loadPr_run w' yb yo y (range_under (range_under YR.out BC.out) hSw); go_simp; try with_reducible rfl))
     refine ry 14 rfl fun K hK => ?_
     go_simp
     refine (byKey_any wrd x y ((XF.out.below BC.out).below hSB0) ((YF.out.below BC.out).below hSB0)).mono ?_
     rintro e w3 ⟨rfl, b3⟩
     go_simp
     refine hK.out _ _ (Below.then_ hSB0 b3) (fun hSB1 => ?_)
     clear hK K
     refine tq 15 rfl hSB1 ?_
     refine tq 16 rfl hSB1 ?_
     refine tq 17 rfl hSB1 ?_
     refine tq 18 rfl hSB1 ?_
     refine wpAnyH_done (by kernel_rfl) ?_ _
     have BC := hide (Below.then_ BC.out hSB1)
     have hld := loadPr_run w3 xb xo x (range_under XR.out BC.out)
     go_wp2_with fail
     refine (copied_any w3 x (XF.out.below BC.out) XS.out).mono ?_
     rintro e wb ⟨V, rfl, hd, hf, fk, fv, bb⟩
     have HVD := hide hd
     have BB := hide bb
     obtain ⟨wc, hwc⟩ : ∃ z, z = wb.alloc (.cells V.cells.toArray 59) := ⟨_, rfl⟩
     have hmks := mkPrs1_run wb V
     rw [← hwc] at hmks
     have Bc := hide (show Below wb.heap.size wb wc by rw [hwc]; exact below_alloc (Below.refl _ _) _)
     have NB := hide (show wc.rangeAt wb.heap.size 0 V.cells by rw [hwc]; exact (Blk.new wb 59 V.cells).whole)
     have MC := hide (((HA.out.under BC.out).under bb).under Bc.out)
     have KC := hide (show KeepP wc V (fun i => i < w.heap.size ∨ (Value.slice A4 k c4).ownBlock = some i) from KeepP.new (hf.below Bc.out) fk fv fun i hi => by
      have h7 := (HA.out.under BC.out).below.size
      rcases hi with hi | hi
      ·omega
      ·exact ((HA.out.under BC.out).row.lt i hi).2)
     clear hwc hd hf fk fv bb hld
     go_wp2_with (at_builtin; refine wpListRow rfl 45 rfl _ _ 37 rfl 59 3 56 Tryz.underlying37 pr_infoR (by decide) w.heap.size (.slice A4 k c4) k _ (by rfl) MC.out.row.row MC.out.row.low wb.heap.size 0 1 1 V.cells (by rfl) rfl NB.out (PairV.one V) (by have := HS.out; omega) (by decide) ?_; intro A9 c9 w9 q1 q2 q3 q4; have R9 := hide (MC.out.row.app KC.out q1 q2 q3 q4); have O9 := hide (show Below w.heap.size w w9 from MC.out.below.trans (q4.below MC.out.below.size (fun i hi e => by have := (MC.out.row.lt i e).1; omega))); clear q1 q2 q3 q4 hmks; simp only [pU])
     exact ⟨⟨A2, (n1 - 1), (c1 - 1), xt, (some ⟨yb, yo, none⟩), m1, d1, (y :: yt), A9, (k + 1), c9, (zs ++ [V]), rfl, rfl, rfl, ⟨HXT.out, by have := HA.out.xcap; omega, HA.out.yin, by have := HA.out.ycap; omega, R9.out, by rw [HA.out.eq, List.map_append, List.map_cons (l := xt), show (y :: yt).map PairV.d = y.d :: yt.map PairV.d from rfl, merge_lt _ _ _ _ LT.out]; simp [HVD.out], by have := HA.out.sum; omega, fun p hp => HA.out.xs_ p (by first | exact hp | simp [hp]), fun p hp => HA.out.ys_ p (by first | exact hp | simp [hp]), O9.out⟩⟩, by simp [lenOfV]; omega⟩
    ·have LT := hide (show 0 ≤ lex x.key y.key by omega)
     have lt0 : decide (lex x.key y.key < 0) = false := decide_eq_false hlt
     by_cases heq : lex x.key y.key = 0
     ·have EQ := hide heq
      have eq0 : (lex x.key y.key == 0) = true := by simpa using heq
      have BC := hide (Below.refl wr.heap.size wr)
      go_wp2_with fail
      refine wp_region_held_drew (S := fun w' => Below wr.heap.size wr w') (by kernel_rfl) ((Below.refl _ _).drew) (fun hSC0 => ?_)
      obtain ⟨wrd, hwC⟩ : ∃ x, x = wr.drew := ⟨_, rfl⟩
      rw [← hwC] at hSC0 ⊢
      clear hwC
      refine tq 0 rfl hSC0 ?_
      refine tq 1 rfl hSC0 ?_
      refine tq 2 rfl hSC0 ?_
      refine tq 3 rfl hSC0 ?_
      refine tq 4 rfl hSC0 ?_
      refine tq 5 rfl hSC0 ?_
      refine tq 6 rfl hSC0 ?_
      refine tq 7 rfl hSC0 ?_
      refine tq 8 rfl hSC0 ?_
      refine tq 9 rfl hSC0 ?_
      (refine tq 10 rfl hSC0 ?_ (fun w' hSw => by have z := loadPr_run w' xb xo x (range_under (range_under XR.out BC.out) hSw); go_simp; try with_reducible rfl))
      refine tq 11 rfl hSC0 ?_
      refine tq 12 rfl hSC0 ?_
      (refine tq 13 rfl hSC0 ?_ (fun w' hSw => by have z := loadPr_run w' yb yo y (range_under (range_under YR.out BC.out) hSw); go_simp; try with_reducible rfl))
      refine ry 14 rfl fun K hK => ?_
      go_simp
      refine (byKey_any wrd x y ((XF.out.below BC.out).below hSC0) ((YF.out.below BC.out).below hSC0)).mono ?_
      rintro e w3 ⟨rfl, b3⟩
      go_simp
      refine hK.out _ _ (Below.then_ hSC0 b3) (fun hSC1 => ?_)
      clear hK K
      refine tq 15 rfl hSC1 ?_
      refine tq 16 rfl hSC1 ?_
      refine tq 17 rfl hSC1 ?_
      refine tq 18 rfl hSC1 ?_
      refine wpAnyH_done (by kernel_rfl) ?_ _
      have BC := hide (Below.then_ BC.out hSC1)
      go_wp2_with fail
      refine wp_region_held_drew (S := fun w' => Below w3.heap.size w3 w') (by kernel_rfl) ((Below.refl _ _).drew) (fun hSE0 => ?_)
      obtain ⟨w3d, hwE⟩ : ∃ x, x = w3.drew := ⟨_, rfl⟩
      rw [← hwE] at hSE0 ⊢
      clear hwE
      refine tq 0 rfl hSE0 ?_
      refine tq 1 rfl hSE0 ?_
      refine tq 2 rfl hSE0 ?_
      refine tq 3 rfl hSE0 ?_
      refine tq 4 rfl hSE0 ?_
      refine tq 5 rfl hSE0 ?_
      (refine tq 6 rfl hSE0 ?_ (fun w' hSw => by have z := loadPr_run w' xb xo x (range_under (range_under XR.out BC.out) hSw); go_simp; try with_reducible rfl))
      refine tq 7 rfl hSE0 ?_
      refine tq 8 rfl hSE0 ?_
      (refine tq 9 rfl hSE0 ?_ (fun w' hSw => by have z := loadPr_run w' yb yo y (range_under (range_under YR.out BC.out) hSw); go_simp; try with_reducible rfl))
      refine ry 10 rfl fun K hK => ?_
      go_simp
      refine (byKey_any w3d x y ((XF.out.below BC.out).below hSE0) ((YF.out.below BC.out).below hSE0)).mono ?_
      rintro e w6 ⟨rfl, b6⟩
      go_simp
      refine hK.out _ _ (Below.then_ hSE0 b6) (fun hSE1 => ?_)
      clear hK K
      refine tq 11 rfl hSE1 ?_
      refine tq 12 rfl hSE1 ?_
      refine tq 13 rfl hSE1 ?_
      refine wpAnyH_done (by kernel_rfl) ?_ _
      have BC := hide (Below.then_ BC.out hSE1)
      have y2 : w6.cell? ⟨yb, yo + 2, none⟩ = some (.bool y.gone) := range_under YR.out BC.out 2 (.bool y.gone) rfl
      cases hg : y.gone with
      | false =>
       rw [hg] at y2
       have HG := hide (show y.d.gone = false from hg)
       clear hg
       have hld := loadPr_run w6 yb yo y (range_under YR.out BC.out)
       go_wp2_with fail
       refine (copied_any w6 y (YF.out.below BC.out) YS.out).mono ?_
       rintro e wb ⟨V, rfl, hd, hf, fk, fv, bb⟩
       have HVD := hide hd
       have BB := hide bb
       obtain ⟨wc, hwc⟩ : ∃ z, z = wb.alloc (.cells V.cells.toArray 59) := ⟨_, rfl⟩
       have hmks := mkPrs1_run wb V
       rw [← hwc] at hmks
       have Bc := hide (show Below wb.heap.size wb wc by rw [hwc]; exact below_alloc (Below.refl _ _) _)
       have NB := hide (show wc.rangeAt wb.heap.size 0 V.cells by rw [hwc]; exact (Blk.new wb 59 V.cells).whole)
       have MC := hide (((HA.out.under BC.out).under bb).under Bc.out)
       have KC := hide (show KeepP wc V (fun i => i < w.heap.size ∨ (Value.slice A4 k c4).ownBlock = some i) from KeepP.new (hf.below Bc.out) fk fv fun i hi => by
        have h7 := (HA.out.under BC.out).below.size
        rcases hi with hi | hi
        ·omega
        ·exact ((HA.out.under BC.out).row.lt i hi).2)
       clear hwc hd hf fk fv bb hld
       go_wp2_with (at_builtin; refine wpListRow rfl 75 rfl _ _ 37 rfl 59 3 56 Tryz.underlying37 pr_infoR (by decide) w.heap.size (.slice A4 k c4) k _ (by rfl) MC.out.row.row MC.out.row.low wb.heap.size 0 1 1 V.cells (by rfl) rfl NB.out (PairV.one V) (by have := HS.out; omega) (by decide) ?_; intro A9 c9 w9 q1 q2 q3 q4; have R9 := hide (MC.out.row.app KC.out q1 q2 q3 q4); have O9 := hide (show Below w.heap.size w w9 from MC.out.below.trans (q4.below MC.out.below.size (fun i hi e => by have := (MC.out.row.lt i e).1; omega))); clear q1 q2 q3 q4 hmks; simp only [pU])
       exact ⟨⟨A2, (n1 - 1), (c1 - 1), xt, B2, (m1 - 1), (d1 - 1), yt, A9, (k + 1), c9, (zs ++ [V]), rfl, rfl, rfl, ⟨HXT.out, by have := HA.out.xcap; omega, HYT.out, by have := HA.out.ycap; omega, R9.out, by rw [HA.out.eq, List.map_cons (l := xt), List.map_cons (l := yt), merge_eq0 _ _ _ _ EQ.out]; simp [HG.out, HVD.out], by have := HA.out.sum; omega, fun p hp => HA.out.xs_ p (by first | exact hp | simp [hp]), fun p hp => HA.out.ys_ p (by first | exact hp | simp [hp]), O9.out⟩⟩, by simp [lenOfV]; omega⟩
      | true =>
       rw [hg] at y2
       have HG := hide (show y.d.gone = true from hg)
       clear hg
       go_wp2_with fail
       exact ⟨⟨A2, (n1 - 1), (c1 - 1), xt, B2, (m1 - 1), (d1 - 1), yt, A4, k, c4, zs, rfl, rfl, rfl, ⟨HXT.out, by have := HA.out.xcap; omega, HYT.out, by have := HA.out.ycap; omega, (HA.out.under BC.out).row, by rw [HA.out.eq, List.map_cons (l := xt), List.map_cons (l := yt), merge_eq0 _ _ _ _ EQ.out]; simp [HG.out], by have := HA.out.sum; omega, fun p hp => HA.out.xs_ p (by first | exact hp | simp [hp]), fun p hp => HA.out.ys_ p (by first | exact hp | simp [hp]), (HA.out.under BC.out).below⟩⟩, by simp [lenOfV]; omega⟩
     ·have EQ := hide heq
      have eq0 : (lex x.key y.key == 0) = false := by simpa using heq
      have BC := hide (Below.refl wr.heap.size wr)
      go_wp2_with fail
      refine wp_region_held_drew (S := fun w' => Below wr.heap.size wr w') (by kernel_rfl) ((Below.refl _ _).drew) (fun hSD0 => ?_)
      obtain ⟨wrd, hwD⟩ : ∃ x, x = wr.drew := ⟨_, rfl⟩
      rw [← hwD] at hSD0 ⊢
      clear hwD
      refine tq 0 rfl hSD0 ?_
      refine tq 1 rfl hSD0 ?_
      refine tq 2 rfl hSD0 ?_
      refine tq 3 rfl hSD0 ?_
      refine tq 4 rfl hSD0 ?_
      refine tq 5 rfl hSD0 ?_
      refine tq 6 rfl hSD0 ?_
      refine tq 7 rfl hSD0 ?_
      refine tq 8 rfl hSD0 ?_
      refine tq 9 rfl hSD0 ?_
      (refine tq 10 rfl hSD0 ?_ (fun w' hSw => by have z := loadPr_run w' xb xo x (range_under (range_under XR.out BC.out) hSw); go_simp; try with_reducible rfl))
      refine tq 11 rfl hSD0 ?_
      refine tq 12 rfl hSD0 ?_
      (refine tq 13 rfl hSD0 ?_ (fun w' hSw => by have z := loadPr_run w' yb yo y (range_under (range_under YR.out BC.out) hSw); go_simp; try with_reducible rfl))
      refine ry 14 rfl fun K hK => ?_
      go_simp
      refine (byKey_any wrd x y ((XF.out.below BC.out).below hSD0) ((YF.out.below BC.out).below hSD0)).mono ?_
      rintro e w3 ⟨rfl, b3⟩
      go_simp
      refine hK.out _ _ (Below.then_ hSD0 b3) (fun hSD1 => ?_)
      clear hK K
      refine tq 15 rfl hSD1 ?_
      refine tq 16 rfl hSD1 ?_
      refine tq 17 rfl hSD1 ?_
      refine tq 18 rfl hSD1 ?_
      refine wpAnyH_done (by kernel_rfl) ?_ _
      have BC := hide (Below.then_ BC.out hSD1)
      go_wp2_with fail
      refine wp_region_held_drew (S := fun w' => Below w3.heap.size w3 w') (by kernel_rfl) ((Below.refl _ _).drew) (fun hSE0 => ?_)
      obtain ⟨w3d, hwE⟩ : ∃ x, x = w3.drew := ⟨_, rfl⟩
      rw [← hwE] at hSE0 ⊢
      clear hwE
      refine tq 0 rfl hSE0 ?_
      refine tq 1 rfl hSE0 ?_
      refine tq 2 rfl hSE0 ?_
      refine tq 3 rfl hSE0 ?_
      refine tq 4 rfl hSE0 ?_
      refine tq 5 rfl hSE0 ?_
      (refine tq 6 rfl hSE0 ?_ (fun w' hSw => by have z := loadPr_run w' xb xo x (range_under (range_under XR.out BC.out) hSw); go_simp; try with_reducible rfl))
      refine tq 7 rfl hSE0 ?_
      refine tq 8 rfl hSE0 ?_
      (refine tq 9 rfl hSE0 ?_ (fun w' hSw => by have z := loadPr_run w' yb yo y (range_under (range_under YR.out BC.out) hSw); go_simp; try with_reducible rfl))
      refine ry 10 rfl fun K hK => ?_
      go_simp
      refine (byKey_any w3d x y ((XF.out.below BC.out).below hSE0) ((YF.out.below BC.out).below hSE0)).mono ?_
      rintro e w6 ⟨rfl, b6⟩
      go_simp
      refine hK.out _ _ (Below.then_ hSE0 b6) (fun hSE1 => ?_)
      clear hK K
      refine tq 11 rfl hSE1 ?_
      refine tq 12 rfl hSE1 ?_
      refine tq 13 rfl hSE1 ?_
      refine wpAnyH_done (by kernel_rfl) ?_ _
      have BC := hide (Below.then_ BC.out hSE1)
      have y2 : w6.cell? ⟨yb, yo + 2, none⟩ = some (.bool y.gone) := range_under YR.out BC.out 2 (.bool y.gone) rfl
      cases hg : y.gone with
      | false =>
       rw [hg] at y2
       have HG := hide (show y.d.gone = false from hg)
       clear hg
       have hld := loadPr_run w6 yb yo y (range_under YR.out BC.out)
       go_wp2_with fail
       refine (copied_any w6 y (YF.out.below BC.out) YS.out).mono ?_
       rintro e wb ⟨V, rfl, hd, hf, fk, fv, bb⟩
       have HVD := hide hd
       have BB := hide bb
       obtain ⟨wc, hwc⟩ : ∃ z, z = wb.alloc (.cells V.cells.toArray 59) := ⟨_, rfl⟩
       have hmks := mkPrs1_run wb V
       rw [← hwc] at hmks
       have Bc := hide (show Below wb.heap.size wb wc by rw [hwc]; exact below_alloc (Below.refl _ _) _)
       have NB := hide (show wc.rangeAt wb.heap.size 0 V.cells by rw [hwc]; exact (Blk.new wb 59 V.cells).whole)
       have MC := hide (((HA.out.under BC.out).under bb).under Bc.out)
       have KC := hide (show KeepP wc V (fun i => i < w.heap.size ∨ (Value.slice A4 k c4).ownBlock = some i) from KeepP.new (hf.below Bc.out) fk fv fun i hi => by
        have h7 := (HA.out.under BC.out).below.size
        rcases hi with hi | hi
        ·omega
        ·exact ((HA.out.under BC.out).row.lt i hi).2)
       clear hwc hd hf fk fv bb hld
       go_wp2_with (at_builtin; refine wpListRow rfl 75 rfl _ _ 37 rfl 59 3 56 Tryz.underlying37 pr_infoR (by decide) w.heap.size (.slice A4 k c4) k _ (by rfl) MC.out.row.row MC.out.row.low wb.heap.size 0 1 1 V.cells (by rfl) rfl NB.out (PairV.one V) (by have := HS.out; omega) (by decide) ?_; intro A9 c9 w9 q1 q2 q3 q4; have R9 := hide (MC.out.row.app KC.out q1 q2 q3 q4); have O9 := hide (show Below w.heap.size w w9 from MC.out.below.trans (q4.below MC.out.below.size (fun i hi e => by have := (MC.out.row.lt i e).1; omega))); clear q1 q2 q3 q4 hmks; simp only [pU])
       exact ⟨⟨(some ⟨xb, xo, none⟩), n1, c1, (x :: xt), B2, (m1 - 1), (d1 - 1), yt, A9, (k + 1), c9, (zs ++ [V]), rfl, rfl, rfl, ⟨HA.out.xin, by have := HA.out.xcap; omega, HYT.out, by have := HA.out.ycap; omega, R9.out, by rw [HA.out.eq, List.map_cons (l := xt), List.map_cons (l := yt), merge_gt _ _ _ _ LT.out EQ.out]; simp [HG.out, HVD.out], by have := HA.out.sum; omega, fun p hp => HA.out.xs_ p (by first | exact hp | simp [hp]), fun p hp => HA.out.ys_ p (by first | exact hp | simp [hp]), O9.out⟩⟩, by simp [lenOfV]; omega⟩
      | true =>
       rw [hg] at y2
       have HG := hide (show y.d.gone = true from hg)
       clear hg
       go_wp2_with fail
       exact ⟨⟨(some ⟨xb, xo, none⟩), n1, c1, (x :: xt), B2, (m1 - 1), (d1 - 1), yt, A4, k, c4, zs, rfl, rfl, rfl, ⟨HA.out.xin, by have := HA.out.xcap; omega, HYT.out, by have := HA.out.ycap; omega, (HA.out.under BC.out).row, by rw [HA.out.eq, List.map_cons (l := xt), List.map_cons (l := yt), merge_gt _ _ _ _ LT.out EQ.out]; simp [HG.out], by have := HA.out.sum; omega, fun p hp => HA.out.xs_ p (by first | exact hp | simp [hp]), fun p hp => HA.out.ys_ p (by first | exact hp | simp [hp]), (HA.out.under BC.out).below⟩⟩, by simp [lenOfV]; omega⟩
end
section
theorem gone_any (w : World) (p : PairV) :
  Calls Tryz.prog 79 #[.agg p.cells.toArray] w fun e w' => e = .returned (.bool p.gone) ∧ Below w.heap.size w w' := by
 have hb := below_alloc (Below.refl _ w) (.cells p.cells.toArray 59)
 obtain ⟨kA, kN, kC, key, vA, vN, vC, value, gone⟩ := p
 simp only [PairV.cells] at hb ⊢
 have HB := hide hb
 clear hb
 go_enter Tryz.func79, Tryz.ntmps79
 go_wp2
 go_ret
 exact ⟨rfl, HB.out⟩
def FoundPost (w : World) (b : Bool) (e : Ending) (w' : World) : Prop := ∃ k : Int, e = .returned (.int .i64 k) ∧ decide (0 ≤ k) = b ∧ Below w.heap.size w w'
theorem gone_step (L : List PairD) (j : Nat) (x : PairD) (hx : L[j]? = some x) (h : goneIn L = goneIn (L.drop j)) : goneIn L = (x.gone || goneIn (L.drop (j + 1))) := by
 obtain ⟨hlt, he⟩ := List.getElem?_eq_some_iff.1 hx
 rw [h, List.drop_eq_getElem_cons hlt, he]
 rfl
attribute [local go_sem ↓] loadPr_fold
theorem IndexGone_any (w : World) (A : Option Addr) (n c : Nat) (xs : List PairV) (hX : PairsIn w A n xs) (hn : n ≤ 1000000000000) :
  Calls Tryz.prog 113 #[.slice A n c, .func (.func 79) #[] #[]] w (FoundPost w (goneIn (xs.map PairV.d))) := by
 have HX := hide hX
 have n9 : (n : Int) ≤ 1000000000000 := by omega
 obtain ⟨L, hL⟩ : ∃ L, L = xs.map PairV.d := ⟨_, rfl⟩
 have HL := hide hL
 rw [← hL]
 clear hX hn hL
 go_enter Tryz.func113, Tryz.ntmps113
 go_wp2_with fail
 go_loopw [8] (fun i wr => ∃ j : Nat, j ≤ n ∧ i = .int .i64 (j : Int) ∧ goneIn L = goneIn (L.drop j) ∧ Below w.heap.size w wr) (fun i _ => n - (intOf i).toNat)
 case atStart => exact ⟨0, by omega, rfl, rfl, Below.refl _ _⟩
 case round =>
  obtain ⟨j, hj, rfl, hr, hb⟩ := hrel
  have HB := hide hb
  have XR := hide (HX.out.below' hb)
  by_cases hlt : j < n
  ·obtain ⟨pb, off, hpa, hrow⟩ := XR.out.2.2 (by omega)
   subst hpa
   obtain ⟨x, hx⟩ : ∃ x, xs[j]? = some x := ⟨_, List.getElem?_eq_getElem (by rw [XR.out.1]; exact hlt)⟩
   have HR := hide (gone_step L j x.d (by rw [HL.out]; exact pmap_get hx) hr)
   have hld := loadPr_run wr pb (off + j * 3) x (hrow j x hx)
   have HLT := hide hlt
   have i0 : (0 : Int) ≤ (j : Int) := by omega
   have i1 : (j : Int) < (n : Int) := by omega
   clear hr hb hx hlt hrow hj
   go_wp2_with fail
   refine (gone_any wr x).mono ?_
   rintro e w2 ⟨rfl, b2⟩
   have B2 := hide b2
   clear b2
   cases hg : x.gone with
   | true =>
    have HE := hide (show goneIn L = true by rw [HR.out, show x.d.gone = true from hg]; rfl)
    go_wp2_with fail
    go_ret
    exact ⟨(j : Int), rfl, by rw [HE.out]; simp, Below.then_ HB.out B2.out⟩
   | false =>
    have HE := hide (show goneIn L = goneIn (L.drop (j + 1)) by rw [HR.out, show x.d.gone = false from hg]; rfl)
    go_wp2_with fail
    exact ⟨⟨j + 1, by have := HLT.out; omega, by go_num, HE.out, Below.then_ HB.out B2.out⟩, by have := HLT.out; simp [intOf]; omega⟩
  ·have HJ := hide (show j = n by omega)
   have i1 : ¬ (j : Int) < (n : Int) := by omega
   have HR := hide hr
   clear hr hb hlt
   go_wp2_with fail
   go_ret
   refine ⟨-1, rfl, ?_, HB.out⟩
   have hl : L.length ≤ j := by rw [HL.out, List.length_map, XR.out.1, HJ.out]; exact Nat.le_refl _
   rw [HR.out, List.drop_of_length_le hl]
   rfl
theorem ContainsGone_any (w : World) (A : Option Addr) (n c : Nat) (xs : List PairV) (hX : PairsIn w A n xs) (hn : n ≤ 1000000000000) :
  Calls Tryz.prog 78 #[.slice A n c, .func (.func 79) #[] #[]] w fun e w' => e = .returned (.bool (goneIn (xs.map PairV.d))) ∧ Below w.heap.size w w' := by
 have h1 := hide (IndexGone_any w A n c xs hX hn)
 clear hX hn
 go_enter Tryz.func78, Tryz.ntmps78
 go_wp2_with fail
 refine h1.out.mono ?_
 rintro e w1 ⟨k, rfl, hk, b1⟩
 have HK := hide hk
 have B1 := hide b1
 clear hk b1
 go_wp2_with fail
 go_ret
 refine ⟨?_, B1.out⟩
 rw [← HK.out]
 rfl
theorem merge_len : ∀ (l c : List PairD), (mergeD l c).length ≤ l.length + c.length := by
 intro l c
 induction l, c using mergeD.induct with
 | case1 l => rw [mergeD]; simp
 | case2 c cs ih =>
  rw [mergeD, List.length_append, List.length_cons]
  have : (if c.gone = true then [] else [c]).length ≤ 1 := by split <;> simp
  omega
 | case3 p l c cs hlt ih =>
  rw [mergeD, if_pos hlt, List.length_cons, List.length_cons]
  omega
 | case4 p l c cs hlt ih =>
  rw [mergeD, if_neg hlt, List.length_append, List.length_cons (a := c), List.length_cons]
  have h1 : (if c.gone = true then [] else [c]).length ≤ 1 := by split <;> simp
  have h2 := restP_len p l c
  omega
theorem right_small {w : World} {A : Option Addr} {n : Nat} {xs : List PairV} (h : PairsIn w A n xs) (hr : rightB (xs.map PairV.d) = true) : ∀ p ∈ xs, SmallP p := fun p hp => by
 have h1 := (okB_iff _).1 (right_ok hr p.d (List.mem_map_of_mem hp))
 have h2 := (h.2.1 p hp).key.1
 have h3 := (h.2.1 p hp).value.1
 simp only [PairV.d] at h1
 exact ⟨by omega, by omega⟩
theorem toldL_cons (b : List Int) (bs : List (List Int)) : toldL (b :: bs) = match parseP b with | none => ([], 151) | some l => if goneIn l then ([], 151) else orErr (toldR l bs) := rfl
structure ToldAt (w wr : World) (l0 : List PairD) (bs : List (List Int)) (j : Nat) (A : Option Addr) (k c : Nat) (xs : List PairV) : Prop where
 keep : PKeep wr (fun i => i < w.heap.size) A k xs
 cap : k ≤ c
 right : rightB (xs.map PairV.d) = true
 eq : toldR l0 bs = toldR (xs.map PairV.d) (bs.drop j)
 len : k ≤ (j + 1) * 1048576
 below : Below w.heap.size w wr
theorem ToldAt.klen {w wr : World} {l0 : List PairD} {bs : List (List Int)} {j : Nat} {A : Option Addr} {k c : Nat} {xs : List PairV} (h : ToldAt w wr l0 bs j A k c xs) : xs.length = k := h.keep.in_.1
def ToldPost (w : World) (o : List PairD × Int) (e : Ending) (w' : World) : Prop :=
 Below w.heap.size w w' ∧ ∃ (A : Option Addr) (k c : Nat) (xs : List PairV), e = .returned (.tuple #[.slice A k c, .int .i64 o.2]) ∧ xs.map PairV.d = o.1 ∧ k ≤ c ∧ PKeep w' (fun i => i < w.heap.size) A k xs
theorem told_any (w : World) (A : Option Addr) (n c : Nat) (b : List Int) (R : Option Addr) (m d : Nat) (bs : List (List Int)) (hB : Bys w A n b) (hR : Byss w R m bs) (hn : n ≤ 1000000000) (hm : m ≤ 300000) (hl : ∀ x ∈ bs, x.length ≤ 1000000000) :
  Calls Tryz.prog 44 #[.slice A n c, .slice R m d] w (ToldPost w (toldL (b :: bs))) := by
 have HR := hide hR
 have HL := hide hl
 have HM := hide hm
 have hp := hide (PParse_any w A n c b hB hn)
 have m9 : (m : Int) ≤ 300000 := by omega
 clear hR hl hB hn hm
 go_enter Tryz.func44, Tryz.ntmps44
 go_wp2_with fail
 refine hp.out.mono ?_
 rintro e w1 ⟨b1, h1⟩
 have B1 := hide b1
 clear b1 hp
 rcases h1 with ⟨ho, rfl⟩ | ⟨A1, k1, c1, xs, ho, rfl, hkc, hk, hk1⟩
 ·have HE := hide (show toldL (b :: bs) = ([], 151) by rw [toldL_cons, ho])
  clear ho
  go_wp2_with fail
  go_ret2
  rw [HE.out]
  exact ⟨B1.out, none, 0, 0, [], rfl, rfl, Nat.le_refl _, PKeep.nil _ _ _⟩
 ·have HK := hide hk
  have HO := hide ho
  have HKC := hide hkc
  have HK1 := hide hk1
  clear ho hk hkc hk1
  go_wp2_with fail
  refine (ContainsGone_any w1 A1 k1 c1 xs HK.out.in_ (by have := HK1.out; omega)).mono ?_
  rintro e w2 ⟨rfl, b2⟩
  have B2 := hide b2
  clear b2
  cases hg : goneIn (xs.map PairV.d) with
  | true =>
   have HE := hide (show toldL (b :: bs) = ([], 151) by rw [toldL_cons, HO.out]; simp only; rw [if_pos hg])
   clear hg
   go_wp2_with fail
   go_ret2
   rw [HE.out]
   exact ⟨Below.then_ B1.out B2.out, none, 0, 0, [], rfl, rfl, Nat.le_refl _, PKeep.nil _ _ _⟩
  | false =>
   have HE := hide (show toldL (b :: bs) = orErr (toldR (xs.map PairV.d) bs) by rw [toldL_cons, HO.out]; simp only; rw [if_neg (by rw [hg]; decide)])
   obtain ⟨l0, hl0⟩ : ∃ l0, l0 = xs.map PairV.d := ⟨_, rfl⟩
   rw [← hl0] at HE
   have T0 := hide (show ToldAt w w2 l0 bs 0 A1 k1 c1 xs from ⟨HK.out.under B2.out, HKC.out, (parse_some HO.out).1, by rw [hl0]; rfl, by have := HK1.out; omega, Below.then_ B1.out B2.out⟩)
   clear hg hl0
   go_wp2_with fail
   go_loopw [6, 9, 10, 11, 25] (fun v _ _ _ i wr => ∃ (j : Nat) (A4 : Option Addr) (k c4 : Nat) (ys : List PairV), j ≤ m ∧ i = .int .i64 (j : Int) ∧ v = .slice A4 k c4 ∧ ToldAt w wr l0 bs j A4 k c4 ys) (fun _ _ _ _ i _ => m - (intOf i).toNat)
   case atStart => exact ⟨0, A1, k1, c1, xs, Nat.zero_le _, rfl, rfl, T0.out⟩
   case round =>
    clear T0 HK HO HKC HK1
    obtain ⟨j, A4, k, c4, ys, hj, rfl, rfl, ht⟩ := hrel
    have HT := hide ht
    have XR := hide (HR.out.below ht.below)
    clear ht
    by_cases hlt : j < m
    ·obtain ⟨rb, ro, hra, hrc⟩ := XR.out.2 (by omega)
     subst hra
     obtain ⟨x, hx⟩ : ∃ x, bs[j]? = some x := ⟨_, List.getElem?_eq_getElem (by rw [XR.out.1]; exact hlt)⟩
     obtain ⟨Ax, nx, cx, hcell, hBx, hcx⟩ := hrc j x hx
     have HBX := hide hBx
     have HLX := hide (show nx ≤ 1000000000 by rw [← hBx.1]; exact HL.out x (List.mem_of_getElem? hx))
     have HDR := hide (show bs.drop j = x :: bs.drop (j + 1) by
      obtain ⟨h8, h9⟩ := List.getElem?_eq_some_iff.1 hx
      rw [List.drop_eq_getElem_cons h8, h9])
     have HJ := hide (show j < m ∧ m ≤ 300000 from ⟨hlt, HM.out⟩)
     have i0 : (0 : Int) ≤ (j : Int) := by omega
     have i1 : (j : Int) < (m : Int) := by omega
     clear hx hBx hcx hrc hlt hj
     go_wp2_with fail
     refine (PParse_any wr Ax nx cx x HBX.out HLX.out).mono ?_
     rintro e w3 ⟨b3, h3⟩
     have B3 := hide b3
     clear b3 hcell
     rcases h3 with ⟨ho, rfl⟩ | ⟨A5, k5, c5, zs, ho, rfl, hkc, hk, hk5⟩
     ·have HE2 := hide (show orErr (toldR l0 bs) = ([], 151) by rw [HT.out.eq, HDR.out, toldR, ho]; rfl)
      clear ho
      go_wp2_with fail
      go_ret2
      rw [HE.out, HE2.out]
      exact ⟨Below.then_ HT.out.below B3.out, none, 0, 0, [], rfl, rfl, Nat.le_refl _, PKeep.nil _ _ _⟩
     ·have HO5 := hide ho
      have HK5 := hide hk
      have HKC5 := hide hkc
      have HL5 := hide hk5
      have PS := hide (parse_some ho)
      clear ho hk hkc hk5
      have T3 := hide (HT.out.keep.under B3.out)
      go_wp2_with fail
      refine (PMerge_any w3 A4 k c4 ys A5 k5 c5 zs T3.out.in_ HK5.out.in_ HT.out.cap HKC5.out (by have h7 := HT.out.len; have h8 := HJ.out; have h9 : (j + 1) * 1048576 ≤ 300000 * 1048576 := Nat.mul_le_mul_right _ (by omega); omega) (by have := HL5.out; omega) (right_small T3.out.in_ HT.out.right) (right_small HK5.out.in_ PS.out.1)).mono ?_
      rintro e w4 ⟨A6, k6, c6, us, rfl, hud, hrow, b4⟩
      have HUD := hide hud
      have HROW := hide hrow
      have B4 := hide b4
      clear hud hrow b4
      go_wp2_with fail
      refine ⟨⟨j + 1, A6, k6, c6, us, by have := HJ.out; omega, by go_num, rfl, ⟨HROW.out.stay.mono fun i _ h9 => by have h7 := HT.out.below.size; have h8 := B3.out.size; show i < w3.heap.size; omega, HROW.out.cap, by rw [HUD.out]; exact mergeD_right HT.out.right PS.out.1, ?_, ?_, Below.then_ HT.out.below (Below.then_ B3.out B4.out)⟩⟩, by have := HJ.out; simp [intOf]; omega⟩
      ·rw [HT.out.eq, HDR.out, toldR, HO5.out, HUD.out]
      ·have h7 := congrArg List.length HUD.out
       have h8 := merge_len (ys.map PairV.d) (zs.map PairV.d)
       have h9 := HT.out.len
       have h10 := HROW.out.len
       have h11 := HT.out.klen
       have h12 := HK5.out.in_.1
       have h13 := HL5.out
       rw [List.length_map] at h7
       rw [List.length_map, List.length_map] at h8
       omega
    ·have HJ := hide (show j = m by omega)
     have i1 : ¬ (j : Int) < (m : Int) := by omega
     clear hlt
     go_wp2_with fail
     go_ret2
     have hl : bs.length ≤ j := by rw [XR.out.1, HJ.out]; exact Nat.le_refl _
     rw [HE.out, HT.out.eq, List.drop_of_length_le hl]
     exact ⟨HT.out.below, A4, k, c4, ys, rfl, rfl, HT.out.cap, HT.out.keep⟩
end
end Go.Proofs.YtjnpkcabkccaoaaGreat
