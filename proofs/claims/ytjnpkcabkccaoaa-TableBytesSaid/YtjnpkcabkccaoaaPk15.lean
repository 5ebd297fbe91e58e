import Derived.Test.YtjnpkcabkccaoaaPk14
import Derived.Test.YtjnpkcabkccaoaaPk10
/-
  table: pairs, and what becomes of them.
-/
namespace Go.Proofs.Ytjnpkcabkccaoaa
open Go.RowKit

/-- A row of pairs but for its first one. -/
theorem pslice_tail (A : Option Addr) (m c : Nat) (hm : 1 ≤ m) (hc : m ≤ c) : ∃ A' : Option Addr, (∀ w : World, (Instr.slice 94 (.slice A m c) (some (.int .i64 1)) none none).run Try.prog w = .ok (.slice A' (m - 1) (c - 1)) w) ∧
    (∀ w : World, (Instr.sliceAt 94 (.slice A m c) (some (.int .i64 1)) none none).run Try.prog w = .ok (.slice A' (m - 1) (c - 1)) w) ∧
    (∀ (w : World) (xs : List PairV), PairsIn w A m xs → PairsIn w A' (m - 1) xs.tail) := by
  have hel : Try.prog.elem 94 = 100 := by kernel_rfl
  have hu : Try.prog.underlying 94 = some (.slice (Try.prog.elem 94)) := by rw [hel]; exact Try.underlying94
  have hsz : (Try.prog.info? 100).map (·.size) = some 3 := isPr
  have h1 : ∀ w : World, (Instr.slice 94 (.slice A m c) (some (.int .i64 1)) none none).run Try.prog w = .ok (.slice (if c = 1 then A else A.map (·.add 3)) (m - 1) (c - 1)) w := fun w => by
    have := run_slice_l (P := Try.prog) w 94 A m c hu .i64 1 (by omega) (by omega)
    rw [hel, run_size hsz w] at this
    rw [this]
    by_cases h : c = 1
    · simp [Result.andThen, sliced, h]
    · simp [Result.andThen, sliced, h]
  refine ⟨if c = 1 then A else A.map (·.add 3), h1, fun w => ?_, fun w xs hX => ?_⟩
  · rw [run_sliceAt_slice w _ _ _ _ _ hu]; exact h1 w
  · have hl : xs.tail.length = m - 1 := by rw [List.length_tail, hX.1]
    by_cases h : c = 1
    · obtain rfl : m = 1 := by omega
      have e : xs.tail = [] := List.eq_nil_of_length_eq_zero hl
      rw [e]
      exact RowsIn.nil _ _ _ _ _
    · obtain ⟨b, off, rfl, hr⟩ := hX.2.2 (by omega)
      have e2 : (some ⟨b, off, none⟩ : Option Addr).map (fun x => x.add 3) = some ⟨b, off + 3, none⟩ := by simp only [Option.map_some, Addr.add_mid]
      rw [if_neg h, e2]
      refine ⟨hl, fun a ha => hX.2.1 a (List.mem_of_mem_tail ha), fun _ => ⟨b, off + 3, rfl, fun i a ha => ?_⟩⟩
      have := hr (i + 1) a (by rw [← ha, List.getElem?_tail])
      rwa [show off + (i + 1) * 3 = off + 3 + i * 3 by omega] at this
def SmallP (p : PairV) : Prop := p.kN ≤ 1000000000000 ∧ p.vN ≤ 1000000000000
/-- What has been merged so far, and what is left. -/
structure MAt (w wr : World) (L : List PairD) (T : Nat) (A1 : Option Addr) (n1 c1 : Nat) (xs : List PairV) (B1 : Option Addr) (m1 d1 : Nat) (ys : List PairV) (A4 : Option Addr) (k c4 : Nat) (zs : List PairV) : Prop where
  xin : PairsIn w A1 n1 xs
  xcap : n1 ≤ c1
  yin : PairsIn w B1 m1 ys
  ycap : m1 ≤ d1
  row : PRow w.heap.size wr A4 k c4 zs
  eq : L = zs.map PairV.d ++ mergeD (xs.map PairV.d) (ys.map PairV.d)
  sum : n1 + m1 + k ≤ T
  xs_ : ∀ p ∈ xs, SmallP p
  ys_ : ∀ p ∈ ys, SmallP p
  below : Below w.heap.size w wr
section
variable {w wr : World} {L : List PairD} {T n1 c1 m1 d1 k c4 : Nat} {A1 B1 A4 : Option Addr} {xs ys zs : List PairV}
theorem MAt.under {w' : World} (h : MAt w wr L T A1 n1 c1 xs B1 m1 d1 ys A4 k c4 zs) (hb : Below wr.heap.size wr w') : MAt w w' L T A1 n1 c1 xs B1 m1 d1 ys A4 k c4 zs :=
  ⟨h.xin, h.xcap, h.yin, h.ycap, h.row.under hb, h.eq, h.sum, h.xs_, h.ys_, Below.then_ h.below hb⟩
/-- What is left of the first ones goes on without its head. -/
theorem MAt.drop {A2 : Option Addr} {x : PairV} {xt : List PairV} (h : MAt w wr L T A1 n1 c1 (x :: xt) B1 m1 d1 ys A4 k c4 zs) (hx : PairsIn w A2 (n1 - 1) xt) (hn : 1 ≤ n1)
    (he : mergeD (x.d :: xt.map PairV.d) (ys.map PairV.d) = mergeD (xt.map PairV.d) (ys.map PairV.d)) : MAt w wr L T A2 (n1 - 1) (c1 - 1) xt B1 m1 d1 ys A4 k c4 zs :=
  ⟨hx, by have := h.xcap; omega, h.yin, h.ycap, h.row, by rw [h.eq, List.map_cons, he], by have := h.sum; omega, fun p hp => h.xs_ p (by simp [hp]), h.ys_, h.below⟩
end
theorem merge_lt (x y : PairD) (xt yt : List PairD) (h : lex x.key y.key < 0) : mergeD (x :: xt) (y :: yt) = x :: mergeD xt (y :: yt) := by rw [mergeD, if_pos h]
theorem merge_eq0 (x y : PairD) (xt yt : List PairD) (h : lex x.key y.key = 0) : mergeD (x :: xt) (y :: yt) = (if y.gone then [] else [y]) ++ mergeD xt yt := by rw [mergeD, if_neg (by omega), restP, if_pos h]
theorem merge_gt (x y : PairD) (xt yt : List PairD) (h : 0 ≤ lex x.key y.key) (h0 : ¬ lex x.key y.key = 0) : mergeD (x :: xt) (y :: yt) = (if y.gone then [] else [y]) ++ mergeD (x :: xt) yt := by rw [mergeD, if_neg (by omega), restP, if_neg h0]
theorem merge_nil (y : PairD) (yt : List PairD) : mergeD [] (y :: yt) = (if y.gone then [] else [y]) ++ mergeD [] yt := by rw [mergeD]
def PMergePost (w : World) (L : List PairD) (e : Ending) (w' : World) : Prop :=
  ∃ (A : Option Addr) (k c : Nat) (zs : List PairV), e = .returned (.slice A k c) ∧ zs.map PairV.d = L ∧ PRow w.heap.size w' A k c zs ∧ Below w.heap.size w w'
theorem made_row (w w0 : World) (n : Nat) (hn : n ≤ maxLen) (hb : w0.heap.size ≤ w.heap.size) (z : Value) : PRow w0.heap.size (w.alloc (.cells (madeCells z.cells (n * 3)) 100)) (some ⟨w.heap.size, 0, none⟩) 0 n [] :=
  ⟨rfl, Nat.zero_le _, by simp; omega, World.ownsRow_made w _ n hb hn (by rw [size_madeCells]), by simp⟩
attribute [local go_sem ↓] loadPr_fold mkPrs1_fold
set_option maxHeartbeats 16000000 in
set_option maxRecDepth 100000 in
theorem PMerge_any (w : World) (A : Option Addr) (n c : Nat) (xs : List PairV) (B : Option Addr) (m d : Nat) (ys : List PairV) (hX : PairsIn w A n xs) (hY : PairsIn w B m ys) (hxc : n ≤ c) (hyc : m ≤ d) (hn : n ≤ 500000000000) (hm : m ≤ 500000000000) (hxs : ∀ p ∈ xs, SmallP p) (hys : ∀ p ∈ ys, SmallP p) :
    Calls Try.prog 71 #[.slice A n c, .slice B m d] w (PMergePost w (mergeD (xs.map PairV.d) (ys.map PairV.d))) := by
  have n9 : (n : Int) ≤ 500000000000 := by omega
  have m9 : (m : Int) ≤ 500000000000 := by omega
  have HN := hide hn
  have HM := hide hm
  obtain ⟨L, hL⟩ : ∃ L, L = mergeD (xs.map PairV.d) (ys.map PairV.d) := ⟨_, rfl⟩
  obtain ⟨ii, zz, hii, hzz, hs3, hbb, hzs⟩ : ∃ i z, Try.prog.info? 100 = some i ∧ i.zero = some z ∧ i.size = 3 ∧ i.bytes = 56 ∧ z.cells.size = 3 := by
    have hi := pr_infoR
    cases hq : Try.prog.info? 100 with
    | none => simp [hq] at hi
    | some i =>
      cases hz : i.zero with
      | none => simp [hq, hz] at hi
      | some z =>
        simp [hq, hz] at hi
        exact ⟨i, z, rfl, hz, hi.1, hi.2.1, hi.2.2⟩
  have hnm : n + m ≤ 1000000000000 := by omega
  have hmr := run_make_rowN (P := Try.prog) 94 100 ii zz Try.underlying94 hii hzz .i64 .i64 0 (n + m) (Nat.zero_le _) (by rw [hbb]; omega) (by omega) w
  rw [hs3] at hmr
  obtain ⟨w1, hw1⟩ : ∃ z, z = w.alloc (.cells (madeCells zz.cells ((n + m) * 3)) 100) := ⟨_, rfl⟩
  have hmk : (Instr.makeSlice 94 (.int .i64 0) (.int .i64 ((n : Int) + (m : Int)))).run Try.prog w = .ok (.slice (some ⟨w.heap.size, 0, none⟩) 0 (n + m)) w1 := by
    rw [hw1, ← hmr]
    congr 2
  have M1 := hide (show MAt w w1 L (n + m) A n c xs B m d ys (some ⟨w.heap.size, 0, none⟩) 0 (n + m) [] from
    ⟨hX, hxc, hY, hyc, by rw [hw1]; exact made_row w w (n + m) (by unfold maxLen; omega) (Nat.le_refl _) zz, by rw [hL]; rfl, Nat.le_refl _, hxs, hys, by rw [hw1]; exact below_alloc (Below.refl _ _) _⟩)
  rw [← hL]
  clear hL hX hY hxc hyc hn hm hxs hys hii hzz hs3 hbb hzs hmr hw1 hnm
  go_enter Try.func71, Try.ntmps71
  go_wp2_with fail
  clear hmk
  go_loopw [0, 1, 5] (fun v0 v1 v5 wr => ∃ (A1 : Option Addr) (n1 c1 : Nat) (xs : List PairV) (B1 : Option Addr) (m1 d1 : Nat) (ys : List PairV) (A4 : Option Addr) (k c4 : Nat) (zs : List PairV), v0 = .slice A1 n1 c1 ∧ v1 = .slice B1 m1 d1 ∧ v5 = .slice A4 k c4 ∧ MAt w wr L (n + m) A1 n1 c1 xs B1 m1 d1 ys A4 k c4 zs) (fun v0 v1 _ _ => lenOfV v0 + lenOfV v1)
  case atStart => exact ⟨A, n, c, xs, B, m, d, ys, _, 0, n + m, [], rfl, rfl, rfl, M1.out⟩
  case round =>
    clear M1
    obtain ⟨A1, n1, c1, xs, B1, m1, d1, ys, A4, k, c4, zs, rfl, rfl, rfl, ha⟩ := hrel
    have HA := hide ha
    have HS := hide (show n1 + m1 + k ≤ 1000000000000 by have := ha.sum; have := HN.out; have := HM.out; omega)
    clear ha
    have n0 : (0 : Int) ≤ (n1 : Int) := by omega
    have m0 : (0 : Int) ≤ (m1 : Int) := by omega
    rcases Nat.eq_zero_or_pos n1 with h1 | h1
    · subst h1
      have hxe : xs = [] := List.eq_nil_of_length_eq_zero HA.out.xin.1
      subst hxe
      rcases Nat.eq_zero_or_pos m1 with h2 | h2
      · subst h2
        have hye : ys = [] := List.eq_nil_of_length_eq_zero HA.out.yin.1
        subst hye
        go_wp2_with fail
        go_ret
        exact ⟨A4, k, c4, zs, rfl, by rw [HA.out.eq]; simp [mergeD_nil], HA.out.row, HA.out.below⟩
      · obtain ⟨yb, yo, hya, hyr⟩ := HA.out.yin.2.2 h2
        subst hya
        obtain ⟨y, yt, hye⟩ : ∃ y yt, ys = y :: yt := by
          cases ys with
          | nil => have := HA.out.yin.1; simp at this; omega
          | cons y yt => exact ⟨y, yt, rfl⟩
        subst hye
        have YR := hide (show wr.rangeAt yb yo y.cells by have := range_under (hyr 0 y rfl) HA.out.below; simpa using this)
        have YF := hide ((HA.out.yin.2.1 y (by simp)).below HA.out.below)
        have YS := hide (HA.out.ys_ y (by simp))
        obtain ⟨B2, hsy, hsy2, hyt⟩ := pslice_tail (some ⟨yb, yo, none⟩) m1 d1 h2 HA.out.ycap
        have HYT := hide (hyt w _ HA.out.yin)
        clear hyt hyr
        have mb : ((m1 : Int) == 0) = false := by simp; omega
        have BC := hide (Below.refl wr.heap.size wr)
        go_wp2_with fail
        refine wp_region_held_drew (S := fun w' => Below wr.heap.size wr w') (by kernel_rfl) ((Below.refl _ _).drew) (fun hSF0 => ?_)
        obtain ⟨wrd, hwF⟩ : ∃ x, x = wr.drew := ⟨_, rfl⟩
        rw [← hwF] at hSF0 ⊢
        clear hwF
        (refine tk (i := 0) (oi := ⟨some 21, .move (.tmp 1), 94, "table.go:84", #[], none⟩) (v := ?_) hSF0 (fun w' hSw => ?_) ?_; rotate_left; focus (go_simp; try with_reducible rfl))
        simp only [Act.put, sT, sZ, sS]
        (refine tk (i := 1) (oi := ⟨some 22, .call { callee := .builtin .len, args := #[.tmp 21], argTypes := #[94] }, 3, "table.go:84", #[⟨0, .data⟩], none⟩) (v := ?_) hSF0 (fun w' hSw => ?_) ?_; rotate_left; focus (go_simp; try with_reducible rfl))
        simp only [Act.put, sT, sZ, sS]
        (refine tk (i := 2) (oi := ⟨some 23, .binOp .eql 3 (.tmp 22) (.const (.int .i64 0)) 3, 4, "table.go:84", #[⟨1, .data⟩], none⟩) (v := ?_) hSF0 (fun w' hSw => ?_) ?_; rotate_left; focus (go_simp; try with_reducible rfl))
        simp only [Act.put, sT, sZ, sS]
        (refine tk (i := 3) (oi := ⟨some 24, .move (.tmp 23), 4, "table.go:84", #[⟨2, .data⟩], none⟩) (v := ?_) hSF0 (fun w' hSw => ?_) ?_; rotate_left; focus (go_simp; try with_reducible rfl))
        simp only [Act.put, sT, sZ, sS]
        (refine tk (i := 4) (oi := ⟨some 25, .move (.tmp 0), 94, "table.go:84", #[⟨3, .guard⟩], some (3, false)⟩) (v := ?_) hSF0 (fun w' hSw => ?_) ?_; rotate_left; focus (go_simp; try with_reducible rfl))
        simp only [Act.put, sT, sZ, sS]
        (refine tk (i := 5) (oi := ⟨some 26, .call { callee := .builtin .len, args := #[.tmp 25], argTypes := #[94] }, 3, "table.go:84", #[⟨4, .data⟩, ⟨3, .guard⟩], some (3, false)⟩) (v := ?_) hSF0 (fun w' hSw => ?_) ?_; rotate_left; focus (go_simp; try with_reducible rfl))
        simp only [Act.put, sT, sZ, sS]
        (refine tk (i := 6) (oi := ⟨some 27, .binOp .gtr 3 (.tmp 26) (.const (.int .i64 0)) 3, 4, "table.go:84", #[⟨5, .data⟩, ⟨3, .guard⟩], some (3, false)⟩) (v := ?_) hSF0 (fun w' hSw => ?_) ?_; rotate_left; focus (go_simp; try with_reducible rfl))
        simp only [Act.put, sT, sZ, sS]
        (refine tk (i := 7) (oi := ⟨some 28, .move (.tmp 27), 4, "table.go:84", #[⟨6, .data⟩, ⟨3, .chain⟩, ⟨3, .guard⟩], some (3, false)⟩) (v := ?_) hSF0 (fun w' hSw => ?_) ?_; rotate_left; focus (go_simp; try with_reducible rfl))
        simp only [Act.put, sT, sZ, sS]
        refine tn (i := 8) (oi := ⟨some 29, .move (.tmp 0), 94, "table.go:84", #[⟨7, .guard⟩], some (7, true)⟩) hSF0 ?_
        simp only [Act.put, sT, sZ, sS]
        refine tn (i := 9) (oi := ⟨some 30, .indexAddr 94 (.tmp 29) (.const (.int .i64 0)), 0, "table.go:84", #[⟨8, .data⟩, ⟨7, .guard⟩], some (7, true)⟩) hSF0 ?_
        simp only [Act.put, sT, sZ, sS]
        refine tn (i := 10) (oi := ⟨some 31, .load 100 (.tmp 30), 100, "table.go:84", #[⟨9, .data⟩, ⟨7, .guard⟩], some (7, true)⟩) hSF0 ?_
        simp only [Act.put, sT, sZ, sS]
        refine tn (i := 11) (oi := ⟨some 32, .move (.tmp 1), 94, "table.go:84", #[⟨7, .guard⟩], some (7, true)⟩) hSF0 ?_
        simp only [Act.put, sT, sZ, sS]
        refine tn (i := 12) (oi := ⟨some 33, .indexAddr 94 (.tmp 32) (.const (.int .i64 0)), 0, "table.go:84", #[⟨11, .data⟩, ⟨7, .guard⟩], some (7, true)⟩) hSF0 ?_
        simp only [Act.put, sT, sZ, sS]
        refine tn (i := 13) (oi := ⟨some 34, .load 100 (.tmp 33), 100, "table.go:84", #[⟨12, .data⟩, ⟨7, .guard⟩], some (7, true)⟩) hSF0 ?_
        simp only [Act.put, sT, sZ, sS]
        refine tn (i := 14) (oi := ⟨some 35, .call { callee := .value (.func 119), args := #[.tmp 31, .tmp 34], argTypes := #[100, 100] }, 3, "table.go:84", #[⟨10, .data⟩, ⟨13, .data⟩, ⟨7, .chain⟩, ⟨7, .guard⟩], some (7, true)⟩) hSF0 ?_
        simp only [Act.put, sT, sZ, sS]
        refine tn (i := 15) (oi := ⟨some 36, .binOp .lss 3 (.tmp 35) (.const (.int .i64 0)) 3, 4, "table.go:84", #[⟨14, .data⟩, ⟨7, .guard⟩], some (7, true)⟩) hSF0 ?_
        simp only [Act.put, sT, sZ, sS]
        (refine tk (i := 16) (oi := ⟨some 37, .pick (.tmp 28) (.tmp 36) (.const (.bool Bool.false)), 4, "table.go:84", #[⟨7, .data⟩, ⟨15, .data⟩, ⟨3, .guard⟩], some (3, false)⟩) (v := ?_) hSF0 (fun w' hSw => ?_) ?_; rotate_left; focus (go_simp; try with_reducible rfl))
        simp only [Act.put, sT, sZ, sS]
        (refine tk (i := 17) (oi := ⟨some 38, .pick (.tmp 24) (.const (.bool Bool.true)) (.tmp 37), 4, "table.go:84", #[⟨3, .data⟩, ⟨16, .data⟩], none⟩) (v := ?_) hSF0 (fun w' hSw => ?_) ?_; rotate_left; focus (go_simp; try with_reducible rfl))
        simp only [Act.put, sT, sZ, sS]
        (refine tk (i := 18) (oi := ⟨some 20, .assign (.tmp 38), 4, "table.go:84", #[⟨17, .data⟩, ⟨14, .chain⟩], none⟩) (v := ?_) hSF0 (fun w' hSw => ?_) ?_; rotate_left; focus (go_simp; try with_reducible rfl))
        simp only [Act.put, sT, sZ, sS]
        refine wpAnyH_done (by kernel_rfl) ?_ _
        have BC := hide (Below.then_ BC.out hSF0)
        go_wp2_with fail
        refine wp_region_held_drew (S := fun w' => Below wrd.heap.size wrd w') (by kernel_rfl) ((Below.refl _ _).drew) (fun hSH0 => ?_)
        obtain ⟨wrdd, hwH⟩ : ∃ x, x = wrd.drew := ⟨_, rfl⟩
        rw [← hwH] at hSH0 ⊢
        clear hwH
        (refine tk (i := 0) (oi := ⟨some 49, .move (.tmp 0), 94, "table.go:88", #[], none⟩) (v := ?_) hSH0 (fun w' hSw => ?_) ?_; rotate_left; focus (go_simp; try with_reducible rfl))
        simp only [Act.put, sT, sZ, sS]
        (refine tk (i := 1) (oi := ⟨some 50, .call { callee := .builtin .len, args := #[.tmp 49], argTypes := #[94] }, 3, "table.go:88", #[⟨0, .data⟩], none⟩) (v := ?_) hSH0 (fun w' hSw => ?_) ?_; rotate_left; focus (go_simp; try with_reducible rfl))
        simp only [Act.put, sT, sZ, sS]
        (refine tk (i := 2) (oi := ⟨some 51, .binOp .gtr 3 (.tmp 50) (.const (.int .i64 0)) 3, 4, "table.go:88", #[⟨1, .data⟩], none⟩) (v := ?_) hSH0 (fun w' hSw => ?_) ?_; rotate_left; focus (go_simp; try with_reducible rfl))
        simp only [Act.put, sT, sZ, sS]
        (refine tk (i := 3) (oi := ⟨some 52, .move (.tmp 51), 4, "table.go:88", #[⟨2, .data⟩], none⟩) (v := ?_) hSH0 (fun w' hSw => ?_) ?_; rotate_left; focus (go_simp; try with_reducible rfl))
        simp only [Act.put, sT, sZ, sS]
        refine tn (i := 4) (oi := ⟨some 53, .move (.tmp 0), 94, "table.go:88", #[⟨3, .guard⟩], some (3, true)⟩) hSH0 ?_
        simp only [Act.put, sT, sZ, sS]
        refine tn (i := 5) (oi := ⟨some 54, .indexAddr 94 (.tmp 53) (.const (.int .i64 0)), 0, "table.go:88", #[⟨4, .data⟩, ⟨3, .guard⟩], some (3, true)⟩) hSH0 ?_
        simp only [Act.put, sT, sZ, sS]
        refine tn (i := 6) (oi := ⟨some 55, .load 100 (.tmp 54), 100, "table.go:88", #[⟨5, .data⟩, ⟨3, .guard⟩], some (3, true)⟩) hSH0 ?_
        simp only [Act.put, sT, sZ, sS]
        refine tn (i := 7) (oi := ⟨some 56, .move (.tmp 1), 94, "table.go:88", #[⟨3, .guard⟩], some (3, true)⟩) hSH0 ?_
        simp only [Act.put, sT, sZ, sS]
        refine tn (i := 8) (oi := ⟨some 57, .indexAddr 94 (.tmp 56) (.const (.int .i64 0)), 0, "table.go:88", #[⟨7, .data⟩, ⟨3, .guard⟩], some (3, true)⟩) hSH0 ?_
        simp only [Act.put, sT, sZ, sS]
        refine tn (i := 9) (oi := ⟨some 58, .load 100 (.tmp 57), 100, "table.go:88", #[⟨8, .data⟩, ⟨3, .guard⟩], some (3, true)⟩) hSH0 ?_
        simp only [Act.put, sT, sZ, sS]
        refine tn (i := 10) (oi := ⟨some 59, .call { callee := .value (.func 119), args := #[.tmp 55, .tmp 58], argTypes := #[100, 100] }, 3, "table.go:88", #[⟨6, .data⟩, ⟨9, .data⟩, ⟨3, .chain⟩, ⟨3, .guard⟩], some (3, true)⟩) hSH0 ?_
        simp only [Act.put, sT, sZ, sS]
        refine tn (i := 11) (oi := ⟨some 60, .binOp .eql 3 (.tmp 59) (.const (.int .i64 0)) 3, 4, "table.go:88", #[⟨10, .data⟩, ⟨3, .guard⟩], some (3, true)⟩) hSH0 ?_
        simp only [Act.put, sT, sZ, sS]
        (refine tk (i := 12) (oi := ⟨some 61, .pick (.tmp 52) (.tmp 60) (.const (.bool Bool.false)), 4, "table.go:88", #[⟨3, .data⟩, ⟨11, .data⟩], none⟩) (v := ?_) hSH0 (fun w' hSw => ?_) ?_; rotate_left; focus (go_simp; try with_reducible rfl))
        simp only [Act.put, sT, sZ, sS]
        (refine tk (i := 13) (oi := ⟨some 48, .assign (.tmp 61), 4, "table.go:88", #[⟨12, .data⟩, ⟨10, .chain⟩], none⟩) (v := ?_) hSH0 (fun w' hSw => ?_) ?_; rotate_left; focus (go_simp; try with_reducible rfl))
        simp only [Act.put, sT, sZ, sS]
        refine wpAnyH_done (by kernel_rfl) ?_ _
        have BC := hide (Below.then_ BC.out hSH0)
        have y2 : wrdd.cell? ⟨yb, yo + 2, none⟩ = some (.bool y.gone) := range_under YR.out BC.out 2 (.bool y.gone) rfl
        cases hg : y.gone with
        | false =>
          rw [hg] at y2
          have HG := hide (show y.d.gone = false from hg)
          clear hg
          have hld := loadPr_run wrdd yb yo y (range_under YR.out BC.out)
          go_wp2_with fail
          refine (copied_any wrdd y (YF.out.below BC.out) YS.out).mono ?_
          rintro e wb ⟨V, rfl, hd, hf, fk, fv, bb⟩
          have HVD := hide hd
          have BB := hide bb
          obtain ⟨wc, hwc⟩ : ∃ z, z = wb.alloc (.cells V.cells.toArray 100) := ⟨_, rfl⟩
          have hmks := mkPrs1_run wb V
          rw [← hwc] at hmks
          have Bc := hide (show Below wb.heap.size wb wc by rw [hwc]; exact below_alloc (Below.refl _ _) _)
          have NB := hide (show wc.rangeAt wb.heap.size 0 V.cells by rw [hwc]; exact (Blk.new wb 100 V.cells).whole)
          have MC := hide (((HA.out.under BC.out).under bb).under Bc.out)
          have KC := hide (show KeepP wc V (fun i => i < w.heap.size ∨ (Value.slice A4 k c4).ownBlock = some i) from KeepP.new (hf.below Bc.out) fk fv fun i hi => by
            have h7 := (HA.out.under BC.out).below.size
            rcases hi with hi | hi
            · omega
            · exact ((HA.out.under BC.out).row.lt i hi).2)
          clear hwc hd hf fk fv bb hld
          go_wp2_with (at_builtin; refine wpListRow rfl 75 rfl _ _ 94 rfl 100 3 56 Try.underlying94 pr_infoR (by decide) w.heap.size (.slice A4 k c4) k _ (by rfl) MC.out.row.row MC.out.row.low wb.heap.size 0 1 1 V.cells (by rfl) rfl NB.out (PairV.one V) (by have := HS.out; omega) (by decide) ?_; intro A9 c9 w9 q1 q2 q3 q4; have R9 := hide (MC.out.row.app KC.out q1 q2 q3 q4); have O9 := hide (show Below w.heap.size w w9 from MC.out.below.trans (q4.below MC.out.below.size (fun i hi e => by have := (MC.out.row.lt i e).1; omega))); clear q1 q2 q3 q4 hmks; simp only [Act.put, sT, sZ, sS])
          exact ⟨⟨A1, 0, c1, [], B2, (m1 - 1), (d1 - 1), yt, A9, (k + 1), c9, (zs ++ [V]), rfl, rfl, rfl, ⟨HA.out.xin, by have := HA.out.xcap; omega, HYT.out, by have := HA.out.ycap; omega, R9.out, by rw [HA.out.eq, show ([] : List PairV).map PairV.d = [] from rfl, List.map_cons (l := yt), merge_nil]; simp [HG.out, HVD.out], by have := HA.out.sum; omega, fun p hp => HA.out.xs_ p (by first | exact hp | simp [hp]), fun p hp => HA.out.ys_ p (by first | exact hp | simp [hp]), O9.out⟩⟩, by simp [lenOfV]; omega⟩
        | true =>
          rw [hg] at y2
          have HG := hide (show y.d.gone = true from hg)
          clear hg
          go_wp2_with fail
          exact ⟨⟨A1, 0, c1, [], B2, (m1 - 1), (d1 - 1), yt, A4, k, c4, zs, rfl, rfl, rfl, ⟨HA.out.xin, by have := HA.out.xcap; omega, HYT.out, by have := HA.out.ycap; omega, (HA.out.under BC.out).row, by rw [HA.out.eq, show ([] : List PairV).map PairV.d = [] from rfl, List.map_cons (l := yt), merge_nil]; simp [HG.out], by have := HA.out.sum; omega, fun p hp => HA.out.xs_ p (by first | exact hp | simp [hp]), fun p hp => HA.out.ys_ p (by first | exact hp | simp [hp]), (HA.out.under BC.out).below⟩⟩, by simp [lenOfV]; omega⟩
    · obtain ⟨xb, xo, hxa, hxr⟩ := HA.out.xin.2.2 h1
      subst hxa
      obtain ⟨x, xt, hxe⟩ : ∃ x xt, xs = x :: xt := by
        cases xs with
        | nil => have := HA.out.xin.1; simp at this; omega
        | cons x xt => exact ⟨x, xt, rfl⟩
      subst hxe
      have XR := hide (show wr.rangeAt xb xo x.cells by have := range_under (hxr 0 x rfl) HA.out.below; simpa using this)
      have XF := hide ((HA.out.xin.2.1 x (by simp)).below HA.out.below)
      have XS := hide (HA.out.xs_ x (by simp))
      obtain ⟨A2, hsx, hsx2, hxt⟩ := pslice_tail (some ⟨xb, xo, none⟩) n1 c1 h1 HA.out.xcap
      have HXT := hide (hxt w _ HA.out.xin)
      clear hxt hxr
      rcases Nat.eq_zero_or_pos m1 with h2 | h2
      · subst h2
        have hye : ys = [] := List.eq_nil_of_length_eq_zero HA.out.yin.1
        subst hye
        have BC := hide (Below.refl wr.heap.size wr)
        go_wp2_with fail
        refine wp_region_held_drew (S := fun w' => Below wr.heap.size wr w') (by kernel_rfl) ((Below.refl _ _).drew) (fun hSA0 => ?_)
        obtain ⟨wrd, hwA⟩ : ∃ x, x = wr.drew := ⟨_, rfl⟩
        rw [← hwA] at hSA0 ⊢
        clear hwA
        (refine tk (i := 0) (oi := ⟨some 21, .move (.tmp 1), 94, "table.go:84", #[], none⟩) (v := ?_) hSA0 (fun w' hSw => ?_) ?_; rotate_left; focus (go_simp; try with_reducible rfl))
        simp only [Act.put, sT, sZ, sS]
        (refine tk (i := 1) (oi := ⟨some 22, .call { callee := .builtin .len, args := #[.tmp 21], argTypes := #[94] }, 3, "table.go:84", #[⟨0, .data⟩], none⟩) (v := ?_) hSA0 (fun w' hSw => ?_) ?_; rotate_left; focus (go_simp; try with_reducible rfl))
        simp only [Act.put, sT, sZ, sS]
        (refine tk (i := 2) (oi := ⟨some 23, .binOp .eql 3 (.tmp 22) (.const (.int .i64 0)) 3, 4, "table.go:84", #[⟨1, .data⟩], none⟩) (v := ?_) hSA0 (fun w' hSw => ?_) ?_; rotate_left; focus (go_simp; try with_reducible rfl))
        simp only [Act.put, sT, sZ, sS]
        (refine tk (i := 3) (oi := ⟨some 24, .move (.tmp 23), 4, "table.go:84", #[⟨2, .data⟩], none⟩) (v := ?_) hSA0 (fun w' hSw => ?_) ?_; rotate_left; focus (go_simp; try with_reducible rfl))
        simp only [Act.put, sT, sZ, sS]
        refine tn (i := 4) (oi := ⟨some 25, .move (.tmp 0), 94, "table.go:84", #[⟨3, .guard⟩], some (3, false)⟩) hSA0 ?_
        simp only [Act.put, sT, sZ, sS]
        refine tn (i := 5) (oi := ⟨some 26, .call { callee := .builtin .len, args := #[.tmp 25], argTypes := #[94] }, 3, "table.go:84", #[⟨4, .data⟩, ⟨3, .guard⟩], some (3, false)⟩) hSA0 ?_
        simp only [Act.put, sT, sZ, sS]
        refine tn (i := 6) (oi := ⟨some 27, .binOp .gtr 3 (.tmp 26) (.const (.int .i64 0)) 3, 4, "table.go:84", #[⟨5, .data⟩, ⟨3, .guard⟩], some (3, false)⟩) hSA0 ?_
        simp only [Act.put, sT, sZ, sS]
        refine tn (i := 7) (oi := ⟨some 28, .move (.tmp 27), 4, "table.go:84", #[⟨6, .data⟩, ⟨3, .chain⟩, ⟨3, .guard⟩], some (3, false)⟩) hSA0 ?_
        simp only [Act.put, sT, sZ, sS]
        refine tn (i := 8) (oi := ⟨some 29, .move (.tmp 0), 94, "table.go:84", #[⟨7, .guard⟩], some (7, true)⟩) hSA0 ?_
        simp only [Act.put, sT, sZ, sS]
        refine tn (i := 9) (oi := ⟨some 30, .indexAddr 94 (.tmp 29) (.const (.int .i64 0)), 0, "table.go:84", #[⟨8, .data⟩, ⟨7, .guard⟩], some (7, true)⟩) hSA0 ?_
        simp only [Act.put, sT, sZ, sS]
        refine tn (i := 10) (oi := ⟨some 31, .load 100 (.tmp 30), 100, "table.go:84", #[⟨9, .data⟩, ⟨7, .guard⟩], some (7, true)⟩) hSA0 ?_
        simp only [Act.put, sT, sZ, sS]
        refine tn (i := 11) (oi := ⟨some 32, .move (.tmp 1), 94, "table.go:84", #[⟨7, .guard⟩], some (7, true)⟩) hSA0 ?_
        simp only [Act.put, sT, sZ, sS]
        refine tn (i := 12) (oi := ⟨some 33, .indexAddr 94 (.tmp 32) (.const (.int .i64 0)), 0, "table.go:84", #[⟨11, .data⟩, ⟨7, .guard⟩], some (7, true)⟩) hSA0 ?_
        simp only [Act.put, sT, sZ, sS]
        refine tn (i := 13) (oi := ⟨some 34, .load 100 (.tmp 33), 100, "table.go:84", #[⟨12, .data⟩, ⟨7, .guard⟩], some (7, true)⟩) hSA0 ?_
        simp only [Act.put, sT, sZ, sS]
        refine tn (i := 14) (oi := ⟨some 35, .call { callee := .value (.func 119), args := #[.tmp 31, .tmp 34], argTypes := #[100, 100] }, 3, "table.go:84", #[⟨10, .data⟩, ⟨13, .data⟩, ⟨7, .chain⟩, ⟨7, .guard⟩], some (7, true)⟩) hSA0 ?_
        simp only [Act.put, sT, sZ, sS]
        refine tn (i := 15) (oi := ⟨some 36, .binOp .lss 3 (.tmp 35) (.const (.int .i64 0)) 3, 4, "table.go:84", #[⟨14, .data⟩, ⟨7, .guard⟩], some (7, true)⟩) hSA0 ?_
        simp only [Act.put, sT, sZ, sS]
        refine tn (i := 16) (oi := ⟨some 37, .pick (.tmp 28) (.tmp 36) (.const (.bool Bool.false)), 4, "table.go:84", #[⟨7, .data⟩, ⟨15, .data⟩, ⟨3, .guard⟩], some (3, false)⟩) hSA0 ?_
        simp only [Act.put, sT, sZ, sS]
        (refine tk (i := 17) (oi := ⟨some 38, .pick (.tmp 24) (.const (.bool Bool.true)) (.tmp 37), 4, "table.go:84", #[⟨3, .data⟩, ⟨16, .data⟩], none⟩) (v := ?_) hSA0 (fun w' hSw => ?_) ?_; rotate_left; focus (go_simp; try with_reducible rfl))
        simp only [Act.put, sT, sZ, sS]
        (refine tk (i := 18) (oi := ⟨some 20, .assign (.tmp 38), 4, "table.go:84", #[⟨17, .data⟩, ⟨14, .chain⟩], none⟩) (v := ?_) hSA0 (fun w' hSw => ?_) ?_; rotate_left; focus (go_simp; try with_reducible rfl))
        simp only [Act.put, sT, sZ, sS]
        refine wpAnyH_done (by kernel_rfl) ?_ _
        have BC := hide (Below.then_ BC.out hSA0)
        have hld := loadPr_run wrd xb xo x (range_under XR.out BC.out)
        go_wp2_with fail
        refine (copied_any wrd x (XF.out.below BC.out) XS.out).mono ?_
        rintro e wb ⟨V, rfl, hd, hf, fk, fv, bb⟩
        have HVD := hide hd
        have BB := hide bb
        obtain ⟨wc, hwc⟩ : ∃ z, z = wb.alloc (.cells V.cells.toArray 100) := ⟨_, rfl⟩
        have hmks := mkPrs1_run wb V
        rw [← hwc] at hmks
        have Bc := hide (show Below wb.heap.size wb wc by rw [hwc]; exact below_alloc (Below.refl _ _) _)
        have NB := hide (show wc.rangeAt wb.heap.size 0 V.cells by rw [hwc]; exact (Blk.new wb 100 V.cells).whole)
        have MC := hide (((HA.out.under BC.out).under bb).under Bc.out)
        have KC := hide (show KeepP wc V (fun i => i < w.heap.size ∨ (Value.slice A4 k c4).ownBlock = some i) from KeepP.new (hf.below Bc.out) fk fv fun i hi => by
          have h7 := (HA.out.under BC.out).below.size
          rcases hi with hi | hi
          · omega
          · exact ((HA.out.under BC.out).row.lt i hi).2)
        clear hwc hd hf fk fv bb hld
        go_wp2_with (at_builtin; refine wpListRow rfl 45 rfl _ _ 94 rfl 100 3 56 Try.underlying94 pr_infoR (by decide) w.heap.size (.slice A4 k c4) k _ (by rfl) MC.out.row.row MC.out.row.low wb.heap.size 0 1 1 V.cells (by rfl) rfl NB.out (PairV.one V) (by have := HS.out; omega) (by decide) ?_; intro A9 c9 w9 q1 q2 q3 q4; have R9 := hide (MC.out.row.app KC.out q1 q2 q3 q4); have O9 := hide (show Below w.heap.size w w9 from MC.out.below.trans (q4.below MC.out.below.size (fun i hi e => by have := (MC.out.row.lt i e).1; omega))); clear q1 q2 q3 q4 hmks; simp only [Act.put, sT, sZ, sS])
        exact ⟨⟨A2, (n1 - 1), (c1 - 1), xt, B1, 0, d1, [], A9, (k + 1), c9, (zs ++ [V]), rfl, rfl, rfl, ⟨HXT.out, by have := HA.out.xcap; omega, HA.out.yin, by have := HA.out.ycap; omega, R9.out, by rw [HA.out.eq, List.map_append, List.map_cons (l := xt), show ([] : List PairV).map PairV.d = [] from rfl, mergeD_nil]; simp [HVD.out, mergeD_nil], by have := HA.out.sum; omega, fun p hp => HA.out.xs_ p (by first | exact hp | simp [hp]), fun p hp => HA.out.ys_ p (by first | exact hp | simp [hp]), O9.out⟩⟩, by simp [lenOfV]; omega⟩
      · obtain ⟨yb, yo, hya, hyr⟩ := HA.out.yin.2.2 h2
        subst hya
        obtain ⟨y, yt, hye⟩ : ∃ y yt, ys = y :: yt := by
          cases ys with
          | nil => have := HA.out.yin.1; simp at this; omega
          | cons y yt => exact ⟨y, yt, rfl⟩
        subst hye
        have YR := hide (show wr.rangeAt yb yo y.cells by have := range_under (hyr 0 y rfl) HA.out.below; simpa using this)
        have YF := hide ((HA.out.yin.2.1 y (by simp)).below HA.out.below)
        have YS := hide (HA.out.ys_ y (by simp))
        obtain ⟨B2, hsy, hsy2, hyt⟩ := pslice_tail (some ⟨yb, yo, none⟩) m1 d1 h2 HA.out.ycap
        have HYT := hide (hyt w _ HA.out.yin)
        clear hyt hyr
        have mb : ((m1 : Int) == 0) = false := by simp; omega
        by_cases hlt : lex x.key y.key < 0
        · have LT := hide hlt
          have lt0 : decide (lex x.key y.key < 0) = true := decide_eq_true hlt
          have BC := hide (Below.refl wr.heap.size wr)
          go_wp2_with fail
          refine wp_region_held_drew (S := fun w' => Below wr.heap.size wr w') (by kernel_rfl) ((Below.refl _ _).drew) (fun hSB0 => ?_)
          obtain ⟨wrd, hwB⟩ : ∃ x, x = wr.drew := ⟨_, rfl⟩
          rw [← hwB] at hSB0 ⊢
          clear hwB
          (refine tk (i := 0) (oi := ⟨some 21, .move (.tmp 1), 94, "table.go:84", #[], none⟩) (v := ?_) hSB0 (fun w' hSw => ?_) ?_; rotate_left; focus (go_simp; try with_reducible rfl))
          simp only [Act.put, sT, sZ, sS]
          (refine tk (i := 1) (oi := ⟨some 22, .call { callee := .builtin .len, args := #[.tmp 21], argTypes := #[94] }, 3, "table.go:84", #[⟨0, .data⟩], none⟩) (v := ?_) hSB0 (fun w' hSw => ?_) ?_; rotate_left; focus (go_simp; try with_reducible rfl))
          simp only [Act.put, sT, sZ, sS]
          (refine tk (i := 2) (oi := ⟨some 23, .binOp .eql 3 (.tmp 22) (.const (.int .i64 0)) 3, 4, "table.go:84", #[⟨1, .data⟩], none⟩) (v := ?_) hSB0 (fun w' hSw => ?_) ?_; rotate_left; focus (go_simp; try with_reducible rfl))
          simp only [Act.put, sT, sZ, sS]
          (refine tk (i := 3) (oi := ⟨some 24, .move (.tmp 23), 4, "table.go:84", #[⟨2, .data⟩], none⟩) (v := ?_) hSB0 (fun w' hSw => ?_) ?_; rotate_left; focus (go_simp; try with_reducible rfl))
          simp only [Act.put, sT, sZ, sS]
          (refine tk (i := 4) (oi := ⟨some 25, .move (.tmp 0), 94, "table.go:84", #[⟨3, .guard⟩], some (3, false)⟩) (v := ?_) hSB0 (fun w' hSw => ?_) ?_; rotate_left; focus (go_simp; try with_reducible rfl))
          simp only [Act.put, sT, sZ, sS]
          (refine tk (i := 5) (oi := ⟨some 26, .call { callee := .builtin .len, args := #[.tmp 25], argTypes := #[94] }, 3, "table.go:84", #[⟨4, .data⟩, ⟨3, .guard⟩], some (3, false)⟩) (v := ?_) hSB0 (fun w' hSw => ?_) ?_; rotate_left; focus (go_simp; try with_reducible rfl))
          simp only [Act.put, sT, sZ, sS]
          (refine tk (i := 6) (oi := ⟨some 27, .binOp .gtr 3 (.tmp 26) (.const (.int .i64 0)) 3, 4, "table.go:84", #[⟨5, .data⟩, ⟨3, .guard⟩], some (3, false)⟩) (v := ?_) hSB0 (fun w' hSw => ?_) ?_; rotate_left; focus (go_simp; try with_reducible rfl))
          simp only [Act.put, sT, sZ, sS]
          (refine tk (i := 7) (oi := ⟨some 28, .move (.tmp 27), 4, "table.go:84", #[⟨6, .data⟩, ⟨3, .chain⟩, ⟨3, .guard⟩], some (3, false)⟩) (v := ?_) hSB0 (fun w' hSw => ?_) ?_; rotate_left; focus (go_simp; try with_reducible rfl))
          simp only [Act.put, sT, sZ, sS]
          (refine tk (i := 8) (oi := ⟨some 29, .move (.tmp 0), 94, "table.go:84", #[⟨7, .guard⟩], some (7, true)⟩) (v := ?_) hSB0 (fun w' hSw => ?_) ?_; rotate_left; focus (go_simp; try with_reducible rfl))
          simp only [Act.put, sT, sZ, sS]
          (refine tk (i := 9) (oi := ⟨some 30, .indexAddr 94 (.tmp 29) (.const (.int .i64 0)), 0, "table.go:84", #[⟨8, .data⟩, ⟨7, .guard⟩], some (7, true)⟩) (v := ?_) hSB0 (fun w' hSw => ?_) ?_; rotate_left; focus (go_simp; try with_reducible rfl))
          simp only [Act.put, sT, sZ, sS]
          (refine tk (i := 10) (oi := ⟨some 31, .load 100 (.tmp 30), 100, "table.go:84", #[⟨9, .data⟩, ⟨7, .guard⟩], some (7, true)⟩) (v := ?_) hSB0 (fun w' hSw => ?_) ?_; rotate_left; focus (have z := loadPr_run w' xb xo x (range_under (range_under XR.out BC.out) hSw); go_simp; try with_reducible rfl))
          simp only [Act.put, sT, sZ, sS]
          (refine tk (i := 11) (oi := ⟨some 32, .move (.tmp 1), 94, "table.go:84", #[⟨7, .guard⟩], some (7, true)⟩) (v := ?_) hSB0 (fun w' hSw => ?_) ?_; rotate_left; focus (go_simp; try with_reducible rfl))
          simp only [Act.put, sT, sZ, sS]
          (refine tk (i := 12) (oi := ⟨some 33, .indexAddr 94 (.tmp 32) (.const (.int .i64 0)), 0, "table.go:84", #[⟨11, .data⟩, ⟨7, .guard⟩], some (7, true)⟩) (v := ?_) hSB0 (fun w' hSw => ?_) ?_; rotate_left; focus (go_simp; try with_reducible rfl))
          simp only [Act.put, sT, sZ, sS]
          (refine tk (i := 13) (oi := ⟨some 34, .load 100 (.tmp 33), 100, "table.go:84", #[⟨12, .data⟩, ⟨7, .guard⟩], some (7, true)⟩) (v := ?_) hSB0 (fun w' hSw => ?_) ?_; rotate_left; focus (have z := loadPr_run w' yb yo y (range_under (range_under YR.out BC.out) hSw); go_simp; try with_reducible rfl))
          simp only [Act.put, sT, sZ, sS]
          refine wpAnyH_ready (rs := [14]) (by kernel_rfl) (by simp) ?_
          refine AllReadyH.cons rfl (fun K hK => ?_) AllReadyH.nil
          go_simp
          refine (byKey_any wrd x y ((XF.out.below BC.out).below hSB0) ((YF.out.below BC.out).below hSB0)).mono ?_
          rintro e w3 ⟨rfl, b3⟩
          go_simp
          refine hK.out _ _ (Below.then_ hSB0 b3) (fun hSB1 => ?_)
          clear hK K
          (refine tk (i := 15) (oi := ⟨some 36, .binOp .lss 3 (.tmp 35) (.const (.int .i64 0)) 3, 4, "table.go:84", #[⟨14, .data⟩, ⟨7, .guard⟩], some (7, true)⟩) (v := ?_) hSB1 (fun w' hSw => ?_) ?_; rotate_left; focus (go_simp; try with_reducible rfl))
          simp only [Act.put, sT, sZ, sS]
          (refine tk (i := 16) (oi := ⟨some 37, .pick (.tmp 28) (.tmp 36) (.const (.bool Bool.false)), 4, "table.go:84", #[⟨7, .data⟩, ⟨15, .data⟩, ⟨3, .guard⟩], some (3, false)⟩) (v := ?_) hSB1 (fun w' hSw => ?_) ?_; rotate_left; focus (go_simp; try with_reducible rfl))
          simp only [Act.put, sT, sZ, sS]
          (refine tk (i := 17) (oi := ⟨some 38, .pick (.tmp 24) (.const (.bool Bool.true)) (.tmp 37), 4, "table.go:84", #[⟨3, .data⟩, ⟨16, .data⟩], none⟩) (v := ?_) hSB1 (fun w' hSw => ?_) ?_; rotate_left; focus (go_simp; try with_reducible rfl))
          simp only [Act.put, sT, sZ, sS]
          (refine tk (i := 18) (oi := ⟨some 20, .assign (.tmp 38), 4, "table.go:84", #[⟨17, .data⟩, ⟨14, .chain⟩], none⟩) (v := ?_) hSB1 (fun w' hSw => ?_) ?_; rotate_left; focus (go_simp; try with_reducible rfl))
          simp only [Act.put, sT, sZ, sS]
          refine wpAnyH_done (by kernel_rfl) ?_ _
          have BC := hide (Below.then_ BC.out hSB1)
          have hld := loadPr_run w3 xb xo x (range_under XR.out BC.out)
          go_wp2_with fail
          refine (copied_any w3 x (XF.out.below BC.out) XS.out).mono ?_
          rintro e wb ⟨V, rfl, hd, hf, fk, fv, bb⟩
          have HVD := hide hd
          have BB := hide bb
          obtain ⟨wc, hwc⟩ : ∃ z, z = wb.alloc (.cells V.cells.toArray 100) := ⟨_, rfl⟩
          have hmks := mkPrs1_run wb V
          rw [← hwc] at hmks
          have Bc := hide (show Below wb.heap.size wb wc by rw [hwc]; exact below_alloc (Below.refl _ _) _)
          have NB := hide (show wc.rangeAt wb.heap.size 0 V.cells by rw [hwc]; exact (Blk.new wb 100 V.cells).whole)
          have MC := hide (((HA.out.under BC.out).under bb).under Bc.out)
          have KC := hide (show KeepP wc V (fun i => i < w.heap.size ∨ (Value.slice A4 k c4).ownBlock = some i) from KeepP.new (hf.below Bc.out) fk fv fun i hi => by
            have h7 := (HA.out.under BC.out).below.size
            rcases hi with hi | hi
            · omega
            · exact ((HA.out.under BC.out).row.lt i hi).2)
          clear hwc hd hf fk fv bb hld
          go_wp2_with (at_builtin; refine wpListRow rfl 45 rfl _ _ 94 rfl 100 3 56 Try.underlying94 pr_infoR (by decide) w.heap.size (.slice A4 k c4) k _ (by rfl) MC.out.row.row MC.out.row.low wb.heap.size 0 1 1 V.cells (by rfl) rfl NB.out (PairV.one V) (by have := HS.out; omega) (by decide) ?_; intro A9 c9 w9 q1 q2 q3 q4; have R9 := hide (MC.out.row.app KC.out q1 q2 q3 q4); have O9 := hide (show Below w.heap.size w w9 from MC.out.below.trans (q4.below MC.out.below.size (fun i hi e => by have := (MC.out.row.lt i e).1; omega))); clear q1 q2 q3 q4 hmks; simp only [Act.put, sT, sZ, sS])
          exact ⟨⟨A2, (n1 - 1), (c1 - 1), xt, (some ⟨yb, yo, none⟩), m1, d1, (y :: yt), A9, (k + 1), c9, (zs ++ [V]), rfl, rfl, rfl, ⟨HXT.out, by have := HA.out.xcap; omega, HA.out.yin, by have := HA.out.ycap; omega, R9.out, by rw [HA.out.eq, List.map_append, List.map_cons (l := xt), show (y :: yt).map PairV.d = y.d :: yt.map PairV.d from rfl, merge_lt _ _ _ _ LT.out]; simp [HVD.out], by have := HA.out.sum; omega, fun p hp => HA.out.xs_ p (by first | exact hp | simp [hp]), fun p hp => HA.out.ys_ p (by first | exact hp | simp [hp]), O9.out⟩⟩, by simp [lenOfV]; omega⟩
        · have LT := hide (show 0 ≤ lex x.key y.key by omega)
          have lt0 : decide (lex x.key y.key < 0) = false := decide_eq_false hlt
          by_cases heq : lex x.key y.key = 0
          · have EQ := hide heq
            have eq0 : (lex x.key y.key == 0) = true := by simpa using heq
            have BC := hide (Below.refl wr.heap.size wr)
            go_wp2_with fail
            refine wp_region_held_drew (S := fun w' => Below wr.heap.size wr w') (by kernel_rfl) ((Below.refl _ _).drew) (fun hSC0 => ?_)
            obtain ⟨wrd, hwC⟩ : ∃ x, x = wr.drew := ⟨_, rfl⟩
            rw [← hwC] at hSC0 ⊢
            clear hwC
            (refine tk (i := 0) (oi := ⟨some 21, .move (.tmp 1), 94, "table.go:84", #[], none⟩) (v := ?_) hSC0 (fun w' hSw => ?_) ?_; rotate_left; focus (go_simp; try with_reducible rfl))
            simp only [Act.put, sT, sZ, sS]
            (refine tk (i := 1) (oi := ⟨some 22, .call { callee := .builtin .len, args := #[.tmp 21], argTypes := #[94] }, 3, "table.go:84", #[⟨0, .data⟩], none⟩) (v := ?_) hSC0 (fun w' hSw => ?_) ?_; rotate_left; focus (go_simp; try with_reducible rfl))
            simp only [Act.put, sT, sZ, sS]
            (refine tk (i := 2) (oi := ⟨some 23, .binOp .eql 3 (.tmp 22) (.const (.int .i64 0)) 3, 4, "table.go:84", #[⟨1, .data⟩], none⟩) (v := ?_) hSC0 (fun w' hSw => ?_) ?_; rotate_left; focus (go_simp; try with_reducible rfl))
            simp only [Act.put, sT, sZ, sS]
            (refine tk (i := 3) (oi := ⟨some 24, .move (.tmp 23), 4, "table.go:84", #[⟨2, .data⟩], none⟩) (v := ?_) hSC0 (fun w' hSw => ?_) ?_; rotate_left; focus (go_simp; try with_reducible rfl))
            simp only [Act.put, sT, sZ, sS]
            (refine tk (i := 4) (oi := ⟨some 25, .move (.tmp 0), 94, "table.go:84", #[⟨3, .guard⟩], some (3, false)⟩) (v := ?_) hSC0 (fun w' hSw => ?_) ?_; rotate_left; focus (go_simp; try with_reducible rfl))
            simp only [Act.put, sT, sZ, sS]
            (refine tk (i := 5) (oi := ⟨some 26, .call { callee := .builtin .len, args := #[.tmp 25], argTypes := #[94] }, 3, "table.go:84", #[⟨4, .data⟩, ⟨3, .guard⟩], some (3, false)⟩) (v := ?_) hSC0 (fun w' hSw => ?_) ?_; rotate_left; focus (go_simp; try with_reducible rfl))
            simp only [Act.put, sT, sZ, sS]
            (refine tk (i := 6) (oi := ⟨some 27, .binOp .gtr 3 (.tmp 26) (.const (.int .i64 0)) 3, 4, "table.go:84", #[⟨5, .data⟩, ⟨3, .guard⟩], some (3, false)⟩) (v := ?_) hSC0 (fun w' hSw => ?_) ?_; rotate_left; focus (go_simp; try with_reducible rfl))
            simp only [Act.put, sT, sZ, sS]
            (refine tk (i := 7) (oi := ⟨some 28, .move (.tmp 27), 4, "table.go:84", #[⟨6, .data⟩, ⟨3, .chain⟩, ⟨3, .guard⟩], some (3, false)⟩) (v := ?_) hSC0 (fun w' hSw => ?_) ?_; rotate_left; focus (go_simp; try with_reducible rfl))
            simp only [Act.put, sT, sZ, sS]
            (refine tk (i := 8) (oi := ⟨some 29, .move (.tmp 0), 94, "table.go:84", #[⟨7, .guard⟩], some (7, true)⟩) (v := ?_) hSC0 (fun w' hSw => ?_) ?_; rotate_left; focus (go_simp; try with_reducible rfl))
            simp only [Act.put, sT, sZ, sS]
            (refine tk (i := 9) (oi := ⟨some 30, .indexAddr 94 (.tmp 29) (.const (.int .i64 0)), 0, "table.go:84", #[⟨8, .data⟩, ⟨7, .guard⟩], some (7, true)⟩) (v := ?_) hSC0 (fun w' hSw => ?_) ?_; rotate_left; focus (go_simp; try with_reducible rfl))
            simp only [Act.put, sT, sZ, sS]
            (refine tk (i := 10) (oi := ⟨some 31, .load 100 (.tmp 30), 100, "table.go:84", #[⟨9, .data⟩, ⟨7, .guard⟩], some (7, true)⟩) (v := ?_) hSC0 (fun w' hSw => ?_) ?_; rotate_left; focus (have z := loadPr_run w' xb xo x (range_under (range_under XR.out BC.out) hSw); go_simp; try with_reducible rfl))
            simp only [Act.put, sT, sZ, sS]
            (refine tk (i := 11) (oi := ⟨some 32, .move (.tmp 1), 94, "table.go:84", #[⟨7, .guard⟩], some (7, true)⟩) (v := ?_) hSC0 (fun w' hSw => ?_) ?_; rotate_left; focus (go_simp; try with_reducible rfl))
            simp only [Act.put, sT, sZ, sS]
            (refine tk (i := 12) (oi := ⟨some 33, .indexAddr 94 (.tmp 32) (.const (.int .i64 0)), 0, "table.go:84", #[⟨11, .data⟩, ⟨7, .guard⟩], some (7, true)⟩) (v := ?_) hSC0 (fun w' hSw => ?_) ?_; rotate_left; focus (go_simp; try with_reducible rfl))
            simp only [Act.put, sT, sZ, sS]
            (refine tk (i := 13) (oi := ⟨some 34, .load 100 (.tmp 33), 100, "table.go:84", #[⟨12, .data⟩, ⟨7, .guard⟩], some (7, true)⟩) (v := ?_) hSC0 (fun w' hSw => ?_) ?_; rotate_left; focus (have z := loadPr_run w' yb yo y (range_under (range_under YR.out BC.out) hSw); go_simp; try with_reducible rfl))
            simp only [Act.put, sT, sZ, sS]
            refine wpAnyH_ready (rs := [14]) (by kernel_rfl) (by simp) ?_
            refine AllReadyH.cons rfl (fun K hK => ?_) AllReadyH.nil
            go_simp
            refine (byKey_any wrd x y ((XF.out.below BC.out).below hSC0) ((YF.out.below BC.out).below hSC0)).mono ?_
            rintro e w3 ⟨rfl, b3⟩
            go_simp
            refine hK.out _ _ (Below.then_ hSC0 b3) (fun hSC1 => ?_)
            clear hK K
            (refine tk (i := 15) (oi := ⟨some 36, .binOp .lss 3 (.tmp 35) (.const (.int .i64 0)) 3, 4, "table.go:84", #[⟨14, .data⟩, ⟨7, .guard⟩], some (7, true)⟩) (v := ?_) hSC1 (fun w' hSw => ?_) ?_; rotate_left; focus (go_simp; try with_reducible rfl))
            simp only [Act.put, sT, sZ, sS]
            (refine tk (i := 16) (oi := ⟨some 37, .pick (.tmp 28) (.tmp 36) (.const (.bool Bool.false)), 4, "table.go:84", #[⟨7, .data⟩, ⟨15, .data⟩, ⟨3, .guard⟩], some (3, false)⟩) (v := ?_) hSC1 (fun w' hSw => ?_) ?_; rotate_left; focus (go_simp; try with_reducible rfl))
            simp only [Act.put, sT, sZ, sS]
            (refine tk (i := 17) (oi := ⟨some 38, .pick (.tmp 24) (.const (.bool Bool.true)) (.tmp 37), 4, "table.go:84", #[⟨3, .data⟩, ⟨16, .data⟩], none⟩) (v := ?_) hSC1 (fun w' hSw => ?_) ?_; rotate_left; focus (go_simp; try with_reducible rfl))
            simp only [Act.put, sT, sZ, sS]
            (refine tk (i := 18) (oi := ⟨some 20, .assign (.tmp 38), 4, "table.go:84", #[⟨17, .data⟩, ⟨14, .chain⟩], none⟩) (v := ?_) hSC1 (fun w' hSw => ?_) ?_; rotate_left; focus (go_simp; try with_reducible rfl))
            simp only [Act.put, sT, sZ, sS]
            refine wpAnyH_done (by kernel_rfl) ?_ _
            have BC := hide (Below.then_ BC.out hSC1)
            go_wp2_with fail
            refine wp_region_held_drew (S := fun w' => Below w3.heap.size w3 w') (by kernel_rfl) ((Below.refl _ _).drew) (fun hSE0 => ?_)
            obtain ⟨w3d, hwE⟩ : ∃ x, x = w3.drew := ⟨_, rfl⟩
            rw [← hwE] at hSE0 ⊢
            clear hwE
            (refine tk (i := 0) (oi := ⟨some 49, .move (.tmp 0), 94, "table.go:88", #[], none⟩) (v := ?_) hSE0 (fun w' hSw => ?_) ?_; rotate_left; focus (go_simp; try with_reducible rfl))
            simp only [Act.put, sT, sZ, sS]
            (refine tk (i := 1) (oi := ⟨some 50, .call { callee := .builtin .len, args := #[.tmp 49], argTypes := #[94] }, 3, "table.go:88", #[⟨0, .data⟩], none⟩) (v := ?_) hSE0 (fun w' hSw => ?_) ?_; rotate_left; focus (go_simp; try with_reducible rfl))
            simp only [Act.put, sT, sZ, sS]
            (refine tk (i := 2) (oi := ⟨some 51, .binOp .gtr 3 (.tmp 50) (.const (.int .i64 0)) 3, 4, "table.go:88", #[⟨1, .data⟩], none⟩) (v := ?_) hSE0 (fun w' hSw => ?_) ?_; rotate_left; focus (go_simp; try with_reducible rfl))
            simp only [Act.put, sT, sZ, sS]
            (refine tk (i := 3) (oi := ⟨some 52, .move (.tmp 51), 4, "table.go:88", #[⟨2, .data⟩], none⟩) (v := ?_) hSE0 (fun w' hSw => ?_) ?_; rotate_left; focus (go_simp; try with_reducible rfl))
            simp only [Act.put, sT, sZ, sS]
            (refine tk (i := 4) (oi := ⟨some 53, .move (.tmp 0), 94, "table.go:88", #[⟨3, .guard⟩], some (3, true)⟩) (v := ?_) hSE0 (fun w' hSw => ?_) ?_; rotate_left; focus (go_simp; try with_reducible rfl))
            simp only [Act.put, sT, sZ, sS]
            (refine tk (i := 5) (oi := ⟨some 54, .indexAddr 94 (.tmp 53) (.const (.int .i64 0)), 0, "table.go:88", #[⟨4, .data⟩, ⟨3, .guard⟩], some (3, true)⟩) (v := ?_) hSE0 (fun w' hSw => ?_) ?_; rotate_left; focus (go_simp; try with_reducible rfl))
            simp only [Act.put, sT, sZ, sS]
            (refine tk (i := 6) (oi := ⟨some 55, .load 100 (.tmp 54), 100, "table.go:88", #[⟨5, .data⟩, ⟨3, .guard⟩], some (3, true)⟩) (v := ?_) hSE0 (fun w' hSw => ?_) ?_; rotate_left; focus (have z := loadPr_run w' xb xo x (range_under (range_under XR.out BC.out) hSw); go_simp; try with_reducible rfl))
            simp only [Act.put, sT, sZ, sS]
            (refine tk (i := 7) (oi := ⟨some 56, .move (.tmp 1), 94, "table.go:88", #[⟨3, .guard⟩], some (3, true)⟩) (v := ?_) hSE0 (fun w' hSw => ?_) ?_; rotate_left; focus (go_simp; try with_reducible rfl))
            simp only [Act.put, sT, sZ, sS]
            (refine tk (i := 8) (oi := ⟨some 57, .indexAddr 94 (.tmp 56) (.const (.int .i64 0)), 0, "table.go:88", #[⟨7, .data⟩, ⟨3, .guard⟩], some (3, true)⟩) (v := ?_) hSE0 (fun w' hSw => ?_) ?_; rotate_left; focus (go_simp; try with_reducible rfl))
            simp only [Act.put, sT, sZ, sS]
            (refine tk (i := 9) (oi := ⟨some 58, .load 100 (.tmp 57), 100, "table.go:88", #[⟨8, .data⟩, ⟨3, .guard⟩], some (3, true)⟩) (v := ?_) hSE0 (fun w' hSw => ?_) ?_; rotate_left; focus (have z := loadPr_run w' yb yo y (range_under (range_under YR.out BC.out) hSw); go_simp; try with_reducible rfl))
            simp only [Act.put, sT, sZ, sS]
            refine wpAnyH_ready (rs := [10]) (by kernel_rfl) (by simp) ?_
            refine AllReadyH.cons rfl (fun K hK => ?_) AllReadyH.nil
            go_simp
            refine (byKey_any w3d x y ((XF.out.below BC.out).below hSE0) ((YF.out.below BC.out).below hSE0)).mono ?_
            rintro e w6 ⟨rfl, b6⟩
            go_simp
            refine hK.out _ _ (Below.then_ hSE0 b6) (fun hSE1 => ?_)
            clear hK K
            (refine tk (i := 11) (oi := ⟨some 60, .binOp .eql 3 (.tmp 59) (.const (.int .i64 0)) 3, 4, "table.go:88", #[⟨10, .data⟩, ⟨3, .guard⟩], some (3, true)⟩) (v := ?_) hSE1 (fun w' hSw => ?_) ?_; rotate_left; focus (go_simp; try with_reducible rfl))
            simp only [Act.put, sT, sZ, sS]
            (refine tk (i := 12) (oi := ⟨some 61, .pick (.tmp 52) (.tmp 60) (.const (.bool Bool.false)), 4, "table.go:88", #[⟨3, .data⟩, ⟨11, .data⟩], none⟩) (v := ?_) hSE1 (fun w' hSw => ?_) ?_; rotate_left; focus (go_simp; try with_reducible rfl))
            simp only [Act.put, sT, sZ, sS]
            (refine tk (i := 13) (oi := ⟨some 48, .assign (.tmp 61), 4, "table.go:88", #[⟨12, .data⟩, ⟨10, .chain⟩], none⟩) (v := ?_) hSE1 (fun w' hSw => ?_) ?_; rotate_left; focus (go_simp; try with_reducible rfl))
            simp only [Act.put, sT, sZ, sS]
            refine wpAnyH_done (by kernel_rfl) ?_ _
            have BC := hide (Below.then_ BC.out hSE1)
            have y2 : w6.cell? ⟨yb, yo + 2, none⟩ = some (.bool y.gone) := range_under YR.out BC.out 2 (.bool y.gone) rfl
            cases hg : y.gone with
            | false =>
              rw [hg] at y2
              have HG := hide (show y.d.gone = false from hg)
              clear hg
              have hld := loadPr_run w6 yb yo y (range_under YR.out BC.out)
              go_wp2_with fail
              refine (copied_any w6 y (YF.out.below BC.out) YS.out).mono ?_
              rintro e wb ⟨V, rfl, hd, hf, fk, fv, bb⟩
              have HVD := hide hd
              have BB := hide bb
              obtain ⟨wc, hwc⟩ : ∃ z, z = wb.alloc (.cells V.cells.toArray 100) := ⟨_, rfl⟩
              have hmks := mkPrs1_run wb V
              rw [← hwc] at hmks
              have Bc := hide (show Below wb.heap.size wb wc by rw [hwc]; exact below_alloc (Below.refl _ _) _)
              have NB := hide (show wc.rangeAt wb.heap.size 0 V.cells by rw [hwc]; exact (Blk.new wb 100 V.cells).whole)
              have MC := hide (((HA.out.under BC.out).under bb).under Bc.out)
              have KC := hide (show KeepP wc V (fun i => i < w.heap.size ∨ (Value.slice A4 k c4).ownBlock = some i) from KeepP.new (hf.below Bc.out) fk fv fun i hi => by
                have h7 := (HA.out.under BC.out).below.size
                rcases hi with hi | hi
                · omega
                · exact ((HA.out.under BC.out).row.lt i hi).2)
              clear hwc hd hf fk fv bb hld
              go_wp2_with (at_builtin; refine wpListRow rfl 75 rfl _ _ 94 rfl 100 3 56 Try.underlying94 pr_infoR (by decide) w.heap.size (.slice A4 k c4) k _ (by rfl) MC.out.row.row MC.out.row.low wb.heap.size 0 1 1 V.cells (by rfl) rfl NB.out (PairV.one V) (by have := HS.out; omega) (by decide) ?_; intro A9 c9 w9 q1 q2 q3 q4; have R9 := hide (MC.out.row.app KC.out q1 q2 q3 q4); have O9 := hide (show Below w.heap.size w w9 from MC.out.below.trans (q4.below MC.out.below.size (fun i hi e => by have := (MC.out.row.lt i e).1; omega))); clear q1 q2 q3 q4 hmks; simp only [Act.put, sT, sZ, sS])
              exact ⟨⟨A2, (n1 - 1), (c1 - 1), xt, B2, (m1 - 1), (d1 - 1), yt, A9, (k + 1), c9, (zs ++ [V]), rfl, rfl, rfl, ⟨HXT.out, by have := HA.out.xcap; omega, HYT.out, by have := HA.out.ycap; omega, R9.out, by rw [HA.out.eq, List.map_cons (l := xt), List.map_cons (l := yt), merge_eq0 _ _ _ _ EQ.out]; simp [HG.out, HVD.out], by have := HA.out.sum; omega, fun p hp => HA.out.xs_ p (by first | exact hp | simp [hp]), fun p hp => HA.out.ys_ p (by first | exact hp | simp [hp]), O9.out⟩⟩, by simp [lenOfV]; omega⟩
            | true =>
              rw [hg] at y2
              have HG := hide (show y.d.gone = true from hg)
              clear hg
              go_wp2_with fail
              exact ⟨⟨A2, (n1 - 1), (c1 - 1), xt, B2, (m1 - 1), (d1 - 1), yt, A4, k, c4, zs, rfl, rfl, rfl, ⟨HXT.out, by have := HA.out.xcap; omega, HYT.out, by have := HA.out.ycap; omega, (HA.out.under BC.out).row, by rw [HA.out.eq, List.map_cons (l := xt), List.map_cons (l := yt), merge_eq0 _ _ _ _ EQ.out]; simp [HG.out], by have := HA.out.sum; omega, fun p hp => HA.out.xs_ p (by first | exact hp | simp [hp]), fun p hp => HA.out.ys_ p (by first | exact hp | simp [hp]), (HA.out.under BC.out).below⟩⟩, by simp [lenOfV]; omega⟩
          · have EQ := hide heq
            have eq0 : (lex x.key y.key == 0) = false := by simpa using heq
            have BC := hide (Below.refl wr.heap.size wr)
            go_wp2_with fail
            refine wp_region_held_drew (S := fun w' => Below wr.heap.size wr w') (by kernel_rfl) ((Below.refl _ _).drew) (fun hSD0 => ?_)
            obtain ⟨wrd, hwD⟩ : ∃ x, x = wr.drew := ⟨_, rfl⟩
            rw [← hwD] at hSD0 ⊢
            clear hwD
            (refine tk (i := 0) (oi := ⟨some 21, .move (.tmp 1), 94, "table.go:84", #[], none⟩) (v := ?_) hSD0 (fun w' hSw => ?_) ?_; rotate_left; focus (go_simp; try with_reducible rfl))
            simp only [Act.put, sT, sZ, sS]
            (refine tk (i := 1) (oi := ⟨some 22, .call { callee := .builtin .len, args := #[.tmp 21], argTypes := #[94] }, 3, "table.go:84", #[⟨0, .data⟩], none⟩) (v := ?_) hSD0 (fun w' hSw => ?_) ?_; rotate_left; focus (go_simp; try with_reducible rfl))
            simp only [Act.put, sT, sZ, sS]
            (refine tk (i := 2) (oi := ⟨some 23, .binOp .eql 3 (.tmp 22) (.const (.int .i64 0)) 3, 4, "table.go:84", #[⟨1, .data⟩], none⟩) (v := ?_) hSD0 (fun w' hSw => ?_) ?_; rotate_left; focus (go_simp; try with_reducible rfl))
            simp only [Act.put, sT, sZ, sS]
            (refine tk (i := 3) (oi := ⟨some 24, .move (.tmp 23), 4, "table.go:84", #[⟨2, .data⟩], none⟩) (v := ?_) hSD0 (fun w' hSw => ?_) ?_; rotate_left; focus (go_simp; try with_reducible rfl))
            simp only [Act.put, sT, sZ, sS]
            (refine tk (i := 4) (oi := ⟨some 25, .move (.tmp 0), 94, "table.go:84", #[⟨3, .guard⟩], some (3, false)⟩) (v := ?_) hSD0 (fun w' hSw => ?_) ?_; rotate_left; focus (go_simp; try with_reducible rfl))
            simp only [Act.put, sT, sZ, sS]
            (refine tk (i := 5) (oi := ⟨some 26, .call { callee := .builtin .len, args := #[.tmp 25], argTypes := #[94] }, 3, "table.go:84", #[⟨4, .data⟩, ⟨3, .guard⟩], some (3, false)⟩) (v := ?_) hSD0 (fun w' hSw => ?_) ?_; rotate_left; focus (go_simp; try with_reducible rfl))
            simp only [Act.put, sT, sZ, sS]
            (refine tk (i := 6) (oi := ⟨some 27, .binOp .gtr 3 (.tmp 26) (.const (.int .i64 0)) 3, 4, "table.go:84", #[⟨5, .data⟩, ⟨3, .guard⟩], some (3, false)⟩) (v := ?_) hSD0 (fun w' hSw => ?_) ?_; rotate_left; focus (go_simp; try with_reducible rfl))
            simp only [Act.put, sT, sZ, sS]
            (refine tk (i := 7) (oi := ⟨some 28, .move (.tmp 27), 4, "table.go:84", #[⟨6, .data⟩, ⟨3, .chain⟩, ⟨3, .guard⟩], some (3, false)⟩) (v := ?_) hSD0 (fun w' hSw => ?_) ?_; rotate_left; focus (go_simp; try with_reducible rfl))
            simp only [Act.put, sT, sZ, sS]
            (refine tk (i := 8) (oi := ⟨some 29, .move (.tmp 0), 94, "table.go:84", #[⟨7, .guard⟩], some (7, true)⟩) (v := ?_) hSD0 (fun w' hSw => ?_) ?_; rotate_left; focus (go_simp; try with_reducible rfl))
            simp only [Act.put, sT, sZ, sS]
            (refine tk (i := 9) (oi := ⟨some 30, .indexAddr 94 (.tmp 29) (.const (.int .i64 0)), 0, "table.go:84", #[⟨8, .data⟩, ⟨7, .guard⟩], some (7, true)⟩) (v := ?_) hSD0 (fun w' hSw => ?_) ?_; rotate_left; focus (go_simp; try with_reducible rfl))
            simp only [Act.put, sT, sZ, sS]
            (refine tk (i := 10) (oi := ⟨some 31, .load 100 (.tmp 30), 100, "table.go:84", #[⟨9, .data⟩, ⟨7, .guard⟩], some (7, true)⟩) (v := ?_) hSD0 (fun w' hSw => ?_) ?_; rotate_left; focus (have z := loadPr_run w' xb xo x (range_under (range_under XR.out BC.out) hSw); go_simp; try with_reducible rfl))
            simp only [Act.put, sT, sZ, sS]
            (refine tk (i := 11) (oi := ⟨some 32, .move (.tmp 1), 94, "table.go:84", #[⟨7, .guard⟩], some (7, true)⟩) (v := ?_) hSD0 (fun w' hSw => ?_) ?_; rotate_left; focus (go_simp; try with_reducible rfl))
            simp only [Act.put, sT, sZ, sS]
            (refine tk (i := 12) (oi := ⟨some 33, .indexAddr 94 (.tmp 32) (.const (.int .i64 0)), 0, "table.go:84", #[⟨11, .data⟩, ⟨7, .guard⟩], some (7, true)⟩) (v := ?_) hSD0 (fun w' hSw => ?_) ?_; rotate_left; focus (go_simp; try with_reducible rfl))
            simp only [Act.put, sT, sZ, sS]
            (refine tk (i := 13) (oi := ⟨some 34, .load 100 (.tmp 33), 100, "table.go:84", #[⟨12, .data⟩, ⟨7, .guard⟩], some (7, true)⟩) (v := ?_) hSD0 (fun w' hSw => ?_) ?_; rotate_left; focus (have z := loadPr_run w' yb yo y (range_under (range_under YR.out BC.out) hSw); go_simp; try with_reducible rfl))
            simp only [Act.put, sT, sZ, sS]
            refine wpAnyH_ready (rs := [14]) (by kernel_rfl) (by simp) ?_
            refine AllReadyH.cons rfl (fun K hK => ?_) AllReadyH.nil
            go_simp
            refine (byKey_any wrd x y ((XF.out.below BC.out).below hSD0) ((YF.out.below BC.out).below hSD0)).mono ?_
            rintro e w3 ⟨rfl, b3⟩
            go_simp
            refine hK.out _ _ (Below.then_ hSD0 b3) (fun hSD1 => ?_)
            clear hK K
            (refine tk (i := 15) (oi := ⟨some 36, .binOp .lss 3 (.tmp 35) (.const (.int .i64 0)) 3, 4, "table.go:84", #[⟨14, .data⟩, ⟨7, .guard⟩], some (7, true)⟩) (v := ?_) hSD1 (fun w' hSw => ?_) ?_; rotate_left; focus (go_simp; try with_reducible rfl))
            simp only [Act.put, sT, sZ, sS]
            (refine tk (i := 16) (oi := ⟨some 37, .pick (.tmp 28) (.tmp 36) (.const (.bool Bool.false)), 4, "table.go:84", #[⟨7, .data⟩, ⟨15, .data⟩, ⟨3, .guard⟩], some (3, false)⟩) (v := ?_) hSD1 (fun w' hSw => ?_) ?_; rotate_left; focus (go_simp; try with_reducible rfl))
            simp only [Act.put, sT, sZ, sS]
            (refine tk (i := 17) (oi := ⟨some 38, .pick (.tmp 24) (.const (.bool Bool.true)) (.tmp 37), 4, "table.go:84", #[⟨3, .data⟩, ⟨16, .data⟩], none⟩) (v := ?_) hSD1 (fun w' hSw => ?_) ?_; rotate_left; focus (go_simp; try with_reducible rfl))
            simp only [Act.put, sT, sZ, sS]
            (refine tk (i := 18) (oi := ⟨some 20, .assign (.tmp 38), 4, "table.go:84", #[⟨17, .data⟩, ⟨14, .chain⟩], none⟩) (v := ?_) hSD1 (fun w' hSw => ?_) ?_; rotate_left; focus (go_simp; try with_reducible rfl))
            simp only [Act.put, sT, sZ, sS]
            refine wpAnyH_done (by kernel_rfl) ?_ _
            have BC := hide (Below.then_ BC.out hSD1)
            go_wp2_with fail
            refine wp_region_held_drew (S := fun w' => Below w3.heap.size w3 w') (by kernel_rfl) ((Below.refl _ _).drew) (fun hSE0 => ?_)
            obtain ⟨w3d, hwE⟩ : ∃ x, x = w3.drew := ⟨_, rfl⟩
            rw [← hwE] at hSE0 ⊢
            clear hwE
            (refine tk (i := 0) (oi := ⟨some 49, .move (.tmp 0), 94, "table.go:88", #[], none⟩) (v := ?_) hSE0 (fun w' hSw => ?_) ?_; rotate_left; focus (go_simp; try with_reducible rfl))
            simp only [Act.put, sT, sZ, sS]
            (refine tk (i := 1) (oi := ⟨some 50, .call { callee := .builtin .len, args := #[.tmp 49], argTypes := #[94] }, 3, "table.go:88", #[⟨0, .data⟩], none⟩) (v := ?_) hSE0 (fun w' hSw => ?_) ?_; rotate_left; focus (go_simp; try with_reducible rfl))
            simp only [Act.put, sT, sZ, sS]
            (refine tk (i := 2) (oi := ⟨some 51, .binOp .gtr 3 (.tmp 50) (.const (.int .i64 0)) 3, 4, "table.go:88", #[⟨1, .data⟩], none⟩) (v := ?_) hSE0 (fun w' hSw => ?_) ?_; rotate_left; focus (go_simp; try with_reducible rfl))
            simp only [Act.put, sT, sZ, sS]
            (refine tk (i := 3) (oi := ⟨some 52, .move (.tmp 51), 4, "table.go:88", #[⟨2, .data⟩], none⟩) (v := ?_) hSE0 (fun w' hSw => ?_) ?_; rotate_left; focus (go_simp; try with_reducible rfl))
            simp only [Act.put, sT, sZ, sS]
            (refine tk (i := 4) (oi := ⟨some 53, .move (.tmp 0), 94, "table.go:88", #[⟨3, .guard⟩], some (3, true)⟩) (v := ?_) hSE0 (fun w' hSw => ?_) ?_; rotate_left; focus (go_simp; try with_reducible rfl))
            simp only [Act.put, sT, sZ, sS]
            (refine tk (i := 5) (oi := ⟨some 54, .indexAddr 94 (.tmp 53) (.const (.int .i64 0)), 0, "table.go:88", #[⟨4, .data⟩, ⟨3, .guard⟩], some (3, true)⟩) (v := ?_) hSE0 (fun w' hSw => ?_) ?_; rotate_left; focus (go_simp; try with_reducible rfl))
            simp only [Act.put, sT, sZ, sS]
            (refine tk (i := 6) (oi := ⟨some 55, .load 100 (.tmp 54), 100, "table.go:88", #[⟨5, .data⟩, ⟨3, .guard⟩], some (3, true)⟩) (v := ?_) hSE0 (fun w' hSw => ?_) ?_; rotate_left; focus (have z := loadPr_run w' xb xo x (range_under (range_under XR.out BC.out) hSw); go_simp; try with_reducible rfl))
            simp only [Act.put, sT, sZ, sS]
            (refine tk (i := 7) (oi := ⟨some 56, .move (.tmp 1), 94, "table.go:88", #[⟨3, .guard⟩], some (3, true)⟩) (v := ?_) hSE0 (fun w' hSw => ?_) ?_; rotate_left; focus (go_simp; try with_reducible rfl))
            simp only [Act.put, sT, sZ, sS]
            (refine tk (i := 8) (oi := ⟨some 57, .indexAddr 94 (.tmp 56) (.const (.int .i64 0)), 0, "table.go:88", #[⟨7, .data⟩, ⟨3, .guard⟩], some (3, true)⟩) (v := ?_) hSE0 (fun w' hSw => ?_) ?_; rotate_left; focus (go_simp; try with_reducible rfl))
            simp only [Act.put, sT, sZ, sS]
            (refine tk (i := 9) (oi := ⟨some 58, .load 100 (.tmp 57), 100, "table.go:88", #[⟨8, .data⟩, ⟨3, .guard⟩], some (3, true)⟩) (v := ?_) hSE0 (fun w' hSw => ?_) ?_; rotate_left; focus (have z := loadPr_run w' yb yo y (range_under (range_under YR.out BC.out) hSw); go_simp; try with_reducible rfl))
            simp only [Act.put, sT, sZ, sS]
            refine wpAnyH_ready (rs := [10]) (by kernel_rfl) (by simp) ?_
            refine AllReadyH.cons rfl (fun K hK => ?_) AllReadyH.nil
            go_simp
            refine (byKey_any w3d x y ((XF.out.below BC.out).below hSE0) ((YF.out.below BC.out).below hSE0)).mono ?_
            rintro e w6 ⟨rfl, b6⟩
            go_simp
            refine hK.out _ _ (Below.then_ hSE0 b6) (fun hSE1 => ?_)
            clear hK K
            (refine tk (i := 11) (oi := ⟨some 60, .binOp .eql 3 (.tmp 59) (.const (.int .i64 0)) 3, 4, "table.go:88", #[⟨10, .data⟩, ⟨3, .guard⟩], some (3, true)⟩) (v := ?_) hSE1 (fun w' hSw => ?_) ?_; rotate_left; focus (go_simp; try with_reducible rfl))
            simp only [Act.put, sT, sZ, sS]
            (refine tk (i := 12) (oi := ⟨some 61, .pick (.tmp 52) (.tmp 60) (.const (.bool Bool.false)), 4, "table.go:88", #[⟨3, .data⟩, ⟨11, .data⟩], none⟩) (v := ?_) hSE1 (fun w' hSw => ?_) ?_; rotate_left; focus (go_simp; try with_reducible rfl))
            simp only [Act.put, sT, sZ, sS]
            (refine tk (i := 13) (oi := ⟨some 48, .assign (.tmp 61), 4, "table.go:88", #[⟨12, .data⟩, ⟨10, .chain⟩], none⟩) (v := ?_) hSE1 (fun w' hSw => ?_) ?_; rotate_left; focus (go_simp; try with_reducible rfl))
            simp only [Act.put, sT, sZ, sS]
            refine wpAnyH_done (by kernel_rfl) ?_ _
            have BC := hide (Below.then_ BC.out hSE1)
            have y2 : w6.cell? ⟨yb, yo + 2, none⟩ = some (.bool y.gone) := range_under YR.out BC.out 2 (.bool y.gone) rfl
            cases hg : y.gone with
            | false =>
              rw [hg] at y2
              have HG := hide (show y.d.gone = false from hg)
              clear hg
              have hld := loadPr_run w6 yb yo y (range_under YR.out BC.out)
              go_wp2_with fail
              refine (copied_any w6 y (YF.out.below BC.out) YS.out).mono ?_
              rintro e wb ⟨V, rfl, hd, hf, fk, fv, bb⟩
              have HVD := hide hd
              have BB := hide bb
              obtain ⟨wc, hwc⟩ : ∃ z, z = wb.alloc (.cells V.cells.toArray 100) := ⟨_, rfl⟩
              have hmks := mkPrs1_run wb V
              rw [← hwc] at hmks
              have Bc := hide (show Below wb.heap.size wb wc by rw [hwc]; exact below_alloc (Below.refl _ _) _)
              have NB := hide (show wc.rangeAt wb.heap.size 0 V.cells by rw [hwc]; exact (Blk.new wb 100 V.cells).whole)
              have MC := hide (((HA.out.under BC.out).under bb).under Bc.out)
              have KC := hide (show KeepP wc V (fun i => i < w.heap.size ∨ (Value.slice A4 k c4).ownBlock = some i) from KeepP.new (hf.below Bc.out) fk fv fun i hi => by
                have h7 := (HA.out.under BC.out).below.size
                rcases hi with hi | hi
                · omega
                · exact ((HA.out.under BC.out).row.lt i hi).2)
              clear hwc hd hf fk fv bb hld
              go_wp2_with (at_builtin; refine wpListRow rfl 75 rfl _ _ 94 rfl 100 3 56 Try.underlying94 pr_infoR (by decide) w.heap.size (.slice A4 k c4) k _ (by rfl) MC.out.row.row MC.out.row.low wb.heap.size 0 1 1 V.cells (by rfl) rfl NB.out (PairV.one V) (by have := HS.out; omega) (by decide) ?_; intro A9 c9 w9 q1 q2 q3 q4; have R9 := hide (MC.out.row.app KC.out q1 q2 q3 q4); have O9 := hide (show Below w.heap.size w w9 from MC.out.below.trans (q4.below MC.out.below.size (fun i hi e => by have := (MC.out.row.lt i e).1; omega))); clear q1 q2 q3 q4 hmks; simp only [Act.put, sT, sZ, sS])
              exact ⟨⟨(some ⟨xb, xo, none⟩), n1, c1, (x :: xt), B2, (m1 - 1), (d1 - 1), yt, A9, (k + 1), c9, (zs ++ [V]), rfl, rfl, rfl, ⟨HA.out.xin, by have := HA.out.xcap; omega, HYT.out, by have := HA.out.ycap; omega, R9.out, by rw [HA.out.eq, List.map_cons (l := xt), List.map_cons (l := yt), merge_gt _ _ _ _ LT.out EQ.out]; simp [HG.out, HVD.out], by have := HA.out.sum; omega, fun p hp => HA.out.xs_ p (by first | exact hp | simp [hp]), fun p hp => HA.out.ys_ p (by first | exact hp | simp [hp]), O9.out⟩⟩, by simp [lenOfV]; omega⟩
            | true =>
              rw [hg] at y2
              have HG := hide (show y.d.gone = true from hg)
              clear hg
              go_wp2_with fail
              exact ⟨⟨(some ⟨xb, xo, none⟩), n1, c1, (x :: xt), B2, (m1 - 1), (d1 - 1), yt, A4, k, c4, zs, rfl, rfl, rfl, ⟨HA.out.xin, by have := HA.out.xcap; omega, HYT.out, by have := HA.out.ycap; omega, (HA.out.under BC.out).row, by rw [HA.out.eq, List.map_cons (l := xt), List.map_cons (l := yt), merge_gt _ _ _ _ LT.out EQ.out]; simp [HG.out], by have := HA.out.sum; omega, fun p hp => HA.out.xs_ p (by first | exact hp | simp [hp]), fun p hp => HA.out.ys_ p (by first | exact hp | simp [hp]), (HA.out.under BC.out).below⟩⟩, by simp [lenOfV]; omega⟩
end Go.Proofs.Ytjnpkcabkccaoaa
