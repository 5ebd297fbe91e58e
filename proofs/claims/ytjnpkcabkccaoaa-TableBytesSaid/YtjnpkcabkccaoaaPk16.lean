import Derived.Test.YtjnpkcabkccaoaaPk15
import Derived.Test.YtjnpkcabkccaoaaPk11
import Derived.Test.YtjnpkcabkccaoaaPk12
import Derived.Test.YtjnpkcabkccaoaaPk13
/-
  table: what a log tells.
-/
namespace Go.Proofs.Ytjnpkcabkccaoaa
open Go.RowKit

set_option maxHeartbeats 1000000 in
theorem gone_any (w : World) (p : PairV) :
    Calls Try.prog 155 #[.agg p.cells.toArray] w fun e w' => e = .returned (.bool p.gone) ∧ Below w.heap.size w w' := by
  have hb := below_alloc (Below.refl _ w) (.cells p.cells.toArray 100)
  obtain ⟨kA, kN, kC, key, vA, vN, vC, value, gone⟩ := p
  simp only [PairV.cells] at hb ⊢
  have HB := hide hb
  clear hb
  go_enter Try.func155, Try.ntmps155
  go_wp2
  go_ret
  exact ⟨rfl, HB.out⟩
def FoundPost (w : World) (b : Bool) (e : Ending) (w' : World) : Prop := ∃ k : Int, e = .returned (.int .i64 k) ∧ decide (0 ≤ k) = b ∧ Below w.heap.size w w'
theorem gone_step (L : List PairD) (j : Nat) (x : PairD) (hx : L[j]? = some x) (h : goneIn L = goneIn (L.drop j)) : goneIn L = (x.gone || goneIn (L.drop (j + 1))) := by
  obtain ⟨hlt, he⟩ := List.getElem?_eq_some_iff.1 hx
  rw [h, List.drop_eq_getElem_cons hlt, he]
  rfl
attribute [local go_sem ↓] loadPr_fold
set_option maxHeartbeats 2000000 in
set_option maxRecDepth 100000 in
theorem IndexGone_any (w : World) (A : Option Addr) (n c : Nat) (xs : List PairV) (hX : PairsIn w A n xs) (hn : n ≤ 1000000000000) :
    Calls Try.prog 158 #[.slice A n c, .func (.func 155) #[] #[]] w (FoundPost w (goneIn (xs.map PairV.d))) := by
  have HX := hide hX
  have n9 : (n : Int) ≤ 1000000000000 := by omega
  obtain ⟨L, hL⟩ : ∃ L, L = xs.map PairV.d := ⟨_, rfl⟩
  have HL := hide hL
  rw [← hL]
  clear hX hn hL
  go_enter Try.func158, Try.ntmps158
  go_wp2_with fail
  go_loopw [8] (fun i wr => ∃ j : Nat, j ≤ n ∧ i = .int .i64 (j : Int) ∧ goneIn L = goneIn (L.drop j) ∧ Below w.heap.size w wr) (fun i _ => n - (intOf i).toNat)
  case atStart => exact ⟨0, by omega, rfl, rfl, Below.refl _ _⟩
  case round =>
    obtain ⟨j, hj, rfl, hr, hb⟩ := hrel
    have HB := hide hb
    have XR := hide (HX.out.below' hb)
    by_cases hlt : j < n
    · obtain ⟨pb, off, hpa, hrow⟩ := XR.out.2.2 (by omega)
      subst hpa
      obtain ⟨x, hx⟩ : ∃ x, xs[j]? = some x := ⟨_, List.getElem?_eq_getElem (by rw [XR.out.1]; exact hlt)⟩
      have HR := hide (gone_step L j x.d (by rw [HL.out]; exact pmap_get hx) hr)
      have hld := loadPr_run wr pb (off + j * 3) x (hrow j x hx)
      have HLT := hide hlt
      have i0 : (0 : Int) ≤ (j : Int) := by omega
      have i1 : (j : Int) < (n : Int) := by omega
      clear hr hb hx hlt hrow hj
      go_wp2_with fail
      refine (gone_any wr x).mono ?_
      rintro e w2 ⟨rfl, b2⟩
      have B2 := hide b2
      clear b2
      cases hg : x.gone with
      | true =>
        have HE := hide (show goneIn L = true by rw [HR.out, show x.d.gone = true from hg]; rfl)
        go_wp2_with fail
        go_ret
        exact ⟨(j : Int), rfl, by rw [HE.out]; simp, Below.then_ HB.out B2.out⟩
      | false =>
        have HE := hide (show goneIn L = goneIn (L.drop (j + 1)) by rw [HR.out, show x.d.gone = false from hg]; rfl)
        go_wp2_with fail
        exact ⟨⟨j + 1, by have := HLT.out; omega, by go_num, HE.out, Below.then_ HB.out B2.out⟩, by have := HLT.out; simp [intOf]; omega⟩
    · have HJ := hide (show j = n by omega)
      have i1 : ¬ (j : Int) < (n : Int) := by omega
      have HR := hide hr
      clear hr hb hlt
      go_wp2_with fail
      go_ret
      refine ⟨-1, rfl, ?_, HB.out⟩
      have hl : L.length ≤ j := by rw [HL.out, List.length_map, XR.out.1, HJ.out]; exact Nat.le_refl _
      rw [HR.out, List.drop_of_length_le hl]
      rfl
set_option maxHeartbeats 1000000 in
theorem ContainsGone_any (w : World) (A : Option Addr) (n c : Nat) (xs : List PairV) (hX : PairsIn w A n xs) (hn : n ≤ 1000000000000) :
    Calls Try.prog 154 #[.slice A n c, .func (.func 155) #[] #[]] w fun e w' => e = .returned (.bool (goneIn (xs.map PairV.d))) ∧ Below w.heap.size w w' := by
  have h1 := hide (IndexGone_any w A n c xs hX hn)
  clear hX hn
  go_enter Try.func154, Try.ntmps154
  go_wp2_with fail
  refine h1.out.mono ?_
  rintro e w1 ⟨k, rfl, hk, b1⟩
  have HK := hide hk
  have B1 := hide b1
  clear hk b1
  go_wp2_with fail
  go_ret
  refine ⟨?_, B1.out⟩
  rw [← HK.out]
  rfl
theorem merge_len : ∀ (l c : List PairD), (mergeD l c).length ≤ l.length + c.length := by
  intro l c
  induction l, c using mergeD.induct with
  | case1 l => rw [mergeD]; simp
  | case2 c cs ih =>
    rw [mergeD, List.length_append, List.length_cons]
    have : (if c.gone = true then [] else [c]).length ≤ 1 := by split <;> simp
    omega
  | case3 p l c cs hlt ih =>
    rw [mergeD, if_pos hlt, List.length_cons, List.length_cons]
    omega
  | case4 p l c cs hlt ih =>
    rw [mergeD, if_neg hlt, List.length_append, List.length_cons (a := c), List.length_cons]
    have h1 : (if c.gone = true then [] else [c]).length ≤ 1 := by split <;> simp
    have h2 := restP_len p l c
    omega
theorem right_small {w : World} {A : Option Addr} {n : Nat} {xs : List PairV} (h : PairsIn w A n xs) (hr : rightB (xs.map PairV.d) = true) : ∀ p ∈ xs, SmallP p := fun p hp => by
  have h1 := (okB_iff _).1 (right_ok hr p.d (List.mem_map_of_mem hp))
  have h2 := (h.2.1 p hp).key.1
  have h3 := (h.2.1 p hp).value.1
  simp only [PairV.d] at h1
  exact ⟨by omega, by omega⟩
theorem toldL_cons (b : List Int) (bs : List (List Int)) : toldL (b :: bs) = match parseP b with | none => ([], 151) | some l => if goneIn l then ([], 151) else orErr (toldR l bs) := rfl
/-- What is told so far. -/
structure ToldAt (w wr : World) (l0 : List PairD) (bs : List (List Int)) (j : Nat) (A : Option Addr) (k c : Nat) (xs : List PairV) : Prop where
  keep : PKeep wr (fun i => i < w.heap.size) A k xs
  cap : k ≤ c
  right : rightB (xs.map PairV.d) = true
  eq : toldR l0 bs = toldR (xs.map PairV.d) (bs.drop j)
  len : k ≤ (j + 1) * 1048576
  below : Below w.heap.size w wr
theorem ToldAt.klen {w wr : World} {l0 : List PairD} {bs : List (List Int)} {j : Nat} {A : Option Addr} {k c : Nat} {xs : List PairV} (h : ToldAt w wr l0 bs j A k c xs) : xs.length = k := h.keep.in_.1
def ToldPost (w : World) (o : List PairD × Int) (e : Ending) (w' : World) : Prop :=
  Below w.heap.size w w' ∧ ∃ (A : Option Addr) (k c : Nat) (xs : List PairV), e = .returned (.tuple #[.slice A k c, .int .i64 o.2]) ∧ xs.map PairV.d = o.1 ∧ k ≤ c ∧ PKeep w' (fun i => i < w.heap.size) A k xs
set_option maxHeartbeats 4000000 in
set_option maxRecDepth 100000 in
theorem told_any (w : World) (A : Option Addr) (n c : Nat) (b : List Int) (R : Option Addr) (m d : Nat) (bs : List (List Int)) (hB : Bys w A n b) (hR : Byss w R m bs) (hn : n ≤ 1000000000) (hm : m ≤ 300000) (hl : ∀ x ∈ bs, x.length ≤ 1000000000) :
    Calls Try.prog 142 #[.slice A n c, .slice R m d] w (ToldPost w (toldL (b :: bs))) := by
  have HR := hide hR
  have HL := hide hl
  have HM := hide hm
  have hp := hide (PParse_any w A n c b hB hn)
  have m9 : (m : Int) ≤ 300000 := by omega
  clear hR hl hB hn hm
  go_enter Try.func142, Try.ntmps142
  go_wp2_with fail
  refine hp.out.mono ?_
  rintro e w1 ⟨b1, h1⟩
  have B1 := hide b1
  clear b1 hp
  rcases h1 with ⟨ho, rfl⟩ | ⟨A1, k1, c1, xs, ho, rfl, hkc, hk, hk1⟩
  · have HE := hide (show toldL (b :: bs) = ([], 151) by rw [toldL_cons, ho])
    clear ho
    go_wp2_with fail
    go_ret2
    rw [HE.out]
    exact ⟨B1.out, none, 0, 0, [], rfl, rfl, Nat.le_refl _, PKeep.nil _ _ _⟩
  · have HK := hide hk
    have HO := hide ho
    have HKC := hide hkc
    have HK1 := hide hk1
    clear ho hk hkc hk1
    go_wp2_with fail
    refine (ContainsGone_any w1 A1 k1 c1 xs HK.out.in_ (by have := HK1.out; omega)).mono ?_
    rintro e w2 ⟨rfl, b2⟩
    have B2 := hide b2
    clear b2
    cases hg : goneIn (xs.map PairV.d) with
    | true =>
      have HE := hide (show toldL (b :: bs) = ([], 151) by rw [toldL_cons, HO.out]; simp only; rw [if_pos hg])
      clear hg
      go_wp2_with fail
      go_ret2
      rw [HE.out]
      exact ⟨Below.then_ B1.out B2.out, none, 0, 0, [], rfl, rfl, Nat.le_refl _, PKeep.nil _ _ _⟩
    | false =>
      have HE := hide (show toldL (b :: bs) = orErr (toldR (xs.map PairV.d) bs) by rw [toldL_cons, HO.out]; simp only; rw [if_neg (by rw [hg]; decide)])
      obtain ⟨l0, hl0⟩ : ∃ l0, l0 = xs.map PairV.d := ⟨_, rfl⟩
      rw [← hl0] at HE
      have T0 := hide (show ToldAt w w2 l0 bs 0 A1 k1 c1 xs from ⟨HK.out.under B2.out, HKC.out, (parse_some HO.out).1, by rw [hl0]; rfl, by have := HK1.out; omega, Below.then_ B1.out B2.out⟩)
      clear hg hl0
      go_wp2_with fail
      go_loopw [6, 9, 10, 11, 25] (fun v _ _ _ i wr => ∃ (j : Nat) (A4 : Option Addr) (k c4 : Nat) (ys : List PairV), j ≤ m ∧ i = .int .i64 (j : Int) ∧ v = .slice A4 k c4 ∧ ToldAt w wr l0 bs j A4 k c4 ys) (fun _ _ _ _ i _ => m - (intOf i).toNat)
      case atStart => exact ⟨0, A1, k1, c1, xs, Nat.zero_le _, rfl, rfl, T0.out⟩
      case round =>
        clear T0 HK HO HKC HK1
        obtain ⟨j, A4, k, c4, ys, hj, rfl, rfl, ht⟩ := hrel
        have HT := hide ht
        have XR := hide (HR.out.below ht.below)
        clear ht
        by_cases hlt : j < m
        · obtain ⟨rb, ro, hra, hrc⟩ := XR.out.2 (by omega)
          subst hra
          obtain ⟨x, hx⟩ : ∃ x, bs[j]? = some x := ⟨_, List.getElem?_eq_getElem (by rw [XR.out.1]; exact hlt)⟩
          obtain ⟨Ax, nx, cx, hcell, hBx, hcx⟩ := hrc j x hx
          have HBX := hide hBx
          have HLX := hide (show nx ≤ 1000000000 by rw [← hBx.1]; exact HL.out x (List.mem_of_getElem? hx))
          have HDR := hide (show bs.drop j = x :: bs.drop (j + 1) by
            obtain ⟨h8, h9⟩ := List.getElem?_eq_some_iff.1 hx
            rw [List.drop_eq_getElem_cons h8, h9])
          have HJ := hide (show j < m ∧ m ≤ 300000 from ⟨hlt, HM.out⟩)
          have i0 : (0 : Int) ≤ (j : Int) := by omega
          have i1 : (j : Int) < (m : Int) := by omega
          clear hx hBx hcx hrc hlt hj
          go_wp2_with fail
          refine (PParse_any wr Ax nx cx x HBX.out HLX.out).mono ?_
          rintro e w3 ⟨b3, h3⟩
          have B3 := hide b3
          clear b3 hcell
          rcases h3 with ⟨ho, rfl⟩ | ⟨A5, k5, c5, zs, ho, rfl, hkc, hk, hk5⟩
          · have HE2 := hide (show orErr (toldR l0 bs) = ([], 151) by rw [HT.out.eq, HDR.out, toldR, ho]; rfl)
            clear ho
            go_wp2_with fail
            go_ret2
            rw [HE.out, HE2.out]
            exact ⟨Below.then_ HT.out.below B3.out, none, 0, 0, [], rfl, rfl, Nat.le_refl _, PKeep.nil _ _ _⟩
          · have HO5 := hide ho
            have HK5 := hide hk
            have HKC5 := hide hkc
            have HL5 := hide hk5
            have PS := hide (parse_some ho)
            clear ho hk hkc hk5
            have T3 := hide (HT.out.keep.under B3.out)
            go_wp2_with fail
            refine (PMerge_any w3 A4 k c4 ys A5 k5 c5 zs T3.out.in_ HK5.out.in_ HT.out.cap HKC5.out (by have h7 := HT.out.len; have h8 := HJ.out; have h9 : (j + 1) * 1048576 ≤ 300000 * 1048576 := Nat.mul_le_mul_right _ (by omega); omega) (by have := HL5.out; omega) (right_small T3.out.in_ HT.out.right) (right_small HK5.out.in_ PS.out.1)).mono ?_
            rintro e w4 ⟨A6, k6, c6, us, rfl, hud, hrow, b4⟩
            have HUD := hide hud
            have HROW := hide hrow
            have B4 := hide b4
            clear hud hrow b4
            go_wp2_with fail
            refine ⟨⟨j + 1, A6, k6, c6, us, by have := HJ.out; omega, by go_num, rfl, ⟨HROW.out.stay.mono fun i _ h9 => by have h7 := HT.out.below.size; have h8 := B3.out.size; show i < w3.heap.size; omega, HROW.out.cap, by rw [HUD.out]; exact mergeD_right HT.out.right PS.out.1, ?_, ?_, Below.then_ HT.out.below (Below.then_ B3.out B4.out)⟩⟩, by have := HJ.out; simp [intOf]; omega⟩
            · rw [HT.out.eq, HDR.out, toldR, HO5.out, HUD.out]
            · have h7 := congrArg List.length HUD.out
              have h8 := merge_len (ys.map PairV.d) (zs.map PairV.d)
              have h9 := HT.out.len
              have h10 := HROW.out.len
              have h11 := HT.out.klen
              have h12 := HK5.out.in_.1
              have h13 := HL5.out
              rw [List.length_map] at h7
              rw [List.length_map, List.length_map] at h8
              omega
        · have HJ := hide (show j = m by omega)
          have i1 : ¬ (j : Int) < (m : Int) := by omega
          clear hlt
          go_wp2_with fail
          go_ret2
          have hl : bs.length ≤ j := by rw [XR.out.1, HJ.out]; exact Nat.le_refl _
          rw [HE.out, HT.out.eq, List.drop_of_length_le hl]
          exact ⟨HT.out.below, A4, k, c4, ys, rfl, rfl, HT.out.cap, HT.out.keep⟩
end Go.Proofs.Ytjnpkcabkccaoaa
/-
  table: what stands on a device; a table.
-/
namespace Go.Proofs.Ytjnpkcabkccaoaa
open Go.RowKit

theorem results_tmp3 {P : Program} {fn : Func} {t u v : Tmp} (h : fn.results = #[.tmp t, .tmp u, .tmp v]) (tmps : Array Value) (w : World) :
    (results fn tmps).run P w = .ok (.tuple #[tmps.getD t undef, tmps.getD u undef, tmps.getD v undef]) w := by
  simp [results, h]
theorem sum_mem : ∀ (l : List (List Int)) (x : List Int), x ∈ l → x.length ≤ (l.map List.length).sum
  | y :: l, x, h => by
    rw [List.map_cons, List.sum_cons]
    rcases List.mem_cons.1 h with e | h
    · rw [e]; omega
    · have := sum_mem l x h; omega
def ReadTPost (w : World) (b : Nat) (d : Dev) (e : Ending) (w' : World) : Prop :=
  ∃ (g : Nat) (A : Option Addr) (k c : Nat) (xs : List PairV), e = .returned (.tuple #[.pointer (some ⟨g, 0, none⟩), .slice A k c, .int .i64 (toldT d).2]) ∧ LogAt w' g b (openAt (openL d).1) ∧ w.heap.size ≤ g ∧ g < w'.heap.size ∧
    xs.map PairV.d = (toldT d).1 ∧ k ≤ c ∧ PKeep w' (fun i => i < w.heap.size ∨ i = g) A k xs ∧ Below w.heap.size w w'
set_option maxHeartbeats 4000000 in
set_option maxRecDepth 100000 in
theorem read_tab (w : World) (b : Nat) (F : Nat → Prop) (d : Dev) (h : DevRep w b F d) (hb : d.Bytes) :
    Calls Try.prog 118 #[.pointer (some ⟨b, 0, none⟩)] w (ReadTPost w b d) := by
  have ho := hide (Open_any w b F d h hb)
  have HS := hide (openL_sum d h.good)
  clear h hb
  go_enter Try.func118, Try.ntmps118
  go_wp2_with fail
  refine ho.out.mono ?_
  rintro e w1 ⟨g, B0, img, recs, rfl, hL, hg, hgB, hB1, hb1, hcase⟩
  have L1 := hide hL
  have HG := hide (show w.heap.size ≤ g ∧ g < B0 ∧ B0 ≤ w1.heap.size from ⟨hg, hgB, hB1⟩)
  have B1 := hide hb1
  clear ho hL hg hgB hB1 hb1
  rcases hcase with ⟨he, rfl, rfl⟩ | ⟨A, n, c, R, m, dd, x, xs, rfl, rfl, he, hnc, hmd, hm3, hst⟩
  · have HE := hide (show toldT d = ([], 0) by rw [toldT, he]; rfl)
    have hd : decide ((openL d).2 ≠ []) = false := by rw [he]; rfl
    rw [hd]
    clear he hd
    go_wp2_with fail
    refine bodyPost_ret (results_tmp3 rfl _ _) rfl ⟨g, none, 0, 0, [], by rw [HE.out]; rfl, L1.out, HG.out.1, by have := HG.out; omega, by rw [HE.out]; rfl, Nat.le_refl _, PKeep.nil _ _ _, B1.out⟩
  · have HE := hide (show toldT d = toldL (x :: xs) by rw [toldT, he])
    have hd : decide ((openL d).2 ≠ []) = true := by rw [he]; rfl
    rw [hd]
    have HX := hide (hst w1 (Only.refl _ _)).1
    have HXS := hide (hst w1 (Only.refl _ _)).2
    have HM3 := hide hm3
    have HSM := hide (show x.length ≤ 1000000000 ∧ ∀ y ∈ xs, y.length ≤ 1000000000 by
      have h9 := HS.out
      rw [he] at h9
      exact ⟨by have := sum_mem _ x (List.mem_cons_self (a := x) (l := xs)); omega, fun y hy => by have := sum_mem _ y (List.mem_cons_of_mem x hy); omega⟩)
    clear he hd hst hm3 hnc hmd
    go_wp2_with fail
    refine (told_any w1 A n c x R m dd xs HX.out HXS.out (by rw [← HX.out.1]; exact HSM.out.1) HM3.out HSM.out.2).mono ?_
    rintro e w2 ⟨b2, A2, k, c2, us, rfl, hu, hkc, hk⟩
    have B2 := hide b2
    have HU := hide hu
    have HKC := hide hkc
    have HK := hide hk
    clear b2 hu hkc hk
    go_wp2_with fail
    refine bodyPost_ret (results_tmp3 rfl _ _) rfl ⟨g, A2, k, c2, us, by rw [HE.out]; rfl, L1.out.under B2.out, HG.out.1, by have := HG.out; have := B2.out.size; omega, by rw [HE.out]; exact HU.out, HKC.out, HK.out.mono (fun i _ hi => ?_), Below.then_ B1.out B2.out⟩
    have h1 := HG.out
    have h2 := B1.out.size
    rcases hi with hi | hi
    · show i < w1.heap.size; omega
    · show i < w1.heap.size; omega
end Go.Proofs.Ytjnpkcabkccaoaa
/-
  table: a table in memory; opening one.
-/
namespace Go.Proofs.Ytjnpkcabkccaoaa
open Go.RowKit

/-- A table there, with its log, its device, its pairs. -/
structure TabG (w0 W : World) (t g b : Nat) (F : Nat → Prop) (d : Dev) (T : TableD) (A : Option Addr) (k c : Nat) (xs : List PairV) : Prop where
  log : LogW w0 W g b F d T.log
  blk : Blk W t 176 [.pointer (some ⟨g, 0, none⟩), .pointer (some ⟨b, 0, none⟩), .slice A k c]
  nt : ¬ F t
  ne : t ≠ g
  t0 : w0.heap.size ≤ t
  keep : PKeep W (fun i => F i ∨ i = g ∨ i = t) A k xs
  data : xs.map PairV.d = T.pairs
  cap : k ≤ c
def TabW (w0 W : World) (t g b : Nat) (F : Nat → Prop) (d : Dev) (T : TableD) : Prop := ∃ (A : Option Addr) (k c : Nat) (xs : List PairV), TabG w0 W t g b F d T A k c xs
theorem TabG.under {w0 W W' : World} {t g b : Nat} {F : Nat → Prop} {d : Dev} {T : TableD} {A : Option Addr} {k c : Nat} {xs : List PairV} (h : TabG w0 W t g b F d T A k c xs) (hb : Below W.heap.size W W') : TabG w0 W' t g b F d T A k c xs :=
  ⟨h.log.under hb, h.blk.under hb, h.nt, h.ne, h.t0, h.keep.under hb, h.data, h.cap⟩
theorem TabW.under {w0 W W' : World} {t g b : Nat} {F : Nat → Prop} {d : Dev} {T : TableD} (h : TabW w0 W t g b F d T) (hb : Below W.heap.size W W') : TabW w0 W' t g b F d T := by
  obtain ⟨A, k, c, xs, h⟩ := h
  exact ⟨A, k, c, xs, h.under hb⟩
def TOpenPost (w0 w : World) (b : Nat) (F : Nat → Prop) (r : Dev × Option TableD × Int) (e : Ending) (w' : World) : Prop :=
  ∃ F', DevRep w' b F' r.1 ∧ (∀ i, F' i → F i ∨ w.heap.size ≤ i) ∧ Only F w w' ∧ ((r.2.1 = none ∧ e = .returned (.tuple #[.pointer none, .int .i64 r.2.2])) ∨
    ∃ (T : TableD) (t g : Nat), r.2.1 = some T ∧ e = .returned (.tuple #[.pointer (some ⟨t, 0, none⟩), .int .i64 r.2.2]) ∧ w.heap.size ≤ t ∧ w.heap.size ≤ g ∧ TabW w0 w' t g b F' r.1 T)
def mkTb (parts : Array (Nat × Value)) : Sem Value := Instr.build 176 parts
theorem mkTb_fold (parts : Array (Nat × Value)) : Instr.build 176 parts = mkTb parts := rfl
theorem mkTb_run (w : World) (x y z : Value) (hx : x.cells = #[x]) (hy : y.cells = #[y]) (hz : z.cells = #[z]) : (mkTb #[(0, x), (1, y), (2, z)]).run Try.prog w = .ok (.agg #[x, y, z]) w := by
  have := run_built3 (P := Try.prog) 176 _ _ _ 1 1 1 Try.underlying176 rfl rfl rfl (by kernel_rfl) (by kernel_rfl) (by kernel_rfl) (by kernel_rfl) x y z [x] [y] [z] hx hy hz rfl rfl rfl w
  rw [mkTb, this]
  rfl
theorem pairs_byts {w : World} {A : Option Addr} {k : Nat} {xs : List PairV} (h : PairsIn w A k xs) : Byts (xs.map PairV.d) := fun p hp => by
  obtain ⟨q, hq, rfl⟩ := List.mem_map.1 hp
  exact ⟨(h.2.1 q hq).key.2.1, (h.2.1 q hq).value.2.1⟩
theorem begin_eq (d : Dev) (l : LogD) (b : List Int) : ∃ d' l' e, beginL d l b = (d', l', e) := ⟨_, _, _, rfl⟩
attribute [local go_sem ↓] mkTb_fold
set_option maxHeartbeats 4000000 in
set_option maxRecDepth 100000 in
theorem TOpen_any (w0 w : World) (b : Nat) (F : Nat → Prop) (d : Dev) (h : DevRep w b F d) (hb : d.Bytes) (hw : d.written.length ≤ 600000) (hbw : Below w0.heap.size w0 w) (hF : ∀ i, F i → w0.heap.size ≤ i) :
    Calls Try.prog 65 #[.pointer (some ⟨b, 0, none⟩)] w (TOpenPost w0 w b F (openT d)) := by
  have hr := hide (read_tab w b F d h hb)
  have D0 := hide h
  have HB := hide hb
  have HW := hide hw
  have HBW := hide hbw
  have HF := hide hF
  have HFL := hide h.lt
  have HTS := hide (toldT_some d h.good)
  clear h hb hw hbw hF
  go_enter Try.func65, Try.ntmps65
  go_wp2_with fail
  refine hr.out.mono ?_
  rintro e w1 ⟨g, A, k, c, xs, rfl, hL, hg, hg1, hx, hkc, hk, b1⟩
  have L1 := hide hL
  have HG := hide (show w.heap.size ≤ g ∧ g < w1.heap.size from ⟨hg, hg1⟩)
  have HX := hide hx
  have HKC := hide hkc
  have HK := hide hk
  have B1 := hide b1
  have D1 := hide (D0.out.under b1)
  obtain ⟨L, er, hte⟩ : ∃ L er, toldT d = (L, er) := ⟨_, _, rfl⟩
  have HTE := hide hte
  rw [hte] at HTS HX ⊢
  have NG := hide (show ¬ F g from fun hf => by have := HFL.out g hf; omega)
  clear hr hL hg hg1 hx hkc hk b1 hte
  simp only
  by_cases h0 : er = 0
  · subst h0
    have e1 : ((0 : Int) != 0) = false := rfl
    have hkn := HK.out.in_.1
    have HKN := hide (show k ≤ 245760 by
      have h7 := right_len HTS.out.1
      have h8 := HTS.out.2.2
      have h9 := congrArg List.length HX.out
      rw [List.length_map] at h9
      simp only at h7 h8 h9
      omega)
    have hby := hide (PBytes_any w1 A k c xs HK.out.in_ (by have := HKN.out; omega) (by rw [HX.out]; have h5 := HTS.out.2.2; show psize L ≤ _; simp only at h5; omega))
    rw [HX.out] at hby
    clear hkn
    go_wp2_with fail
    refine hby.out.mono ?_
    rintro e w2 ⟨A2, m2, c2, rfl, t2, f2⟩
    have T2 := hide t2
    have F2 := hide f2
    have B2 := hide t2.below
    have D2 := hide (D1.out.under t2.below)
    have L2 := hide (L1.out.under t2.below)
    have M2 := hide (show m2 ≤ 6000000 by
      have h5 := t2.len
      have h6 := tbytes_len L
      have h7 : L.length ≤ psize L := right_len HTS.out.1
      have h8 : psize L ≤ 245760 := HTS.out.2.2
      have h9 : (tbytes L).1.length = m2 := h5
      omega)
    clear t2 f2 hby
    go_wp2_with fail
    refine (Begin_any w2 g b F d (openAt (openL d).1) A2 m2 c2 (tbytes L).1 L2.out D2.out HB.out NG.out T2.out.bys (fun _ ad e hf => by have h5 := F2.out ad e; have h6 : ad.block = g := hf; have := HG.out.2; omega) (by have := M2.out; omega) (by have := HW.out; omega)).mono ?_
    rintro e w3 ⟨rfl, F', hD3, hL3, o3, hF3⟩
    have HEQ := hide (show openT d = if (beginL d (openAt (openL d).1) (tbytes L).1).2.2 ≠ 0 then ((beginL d (openAt (openL d).1) (tbytes L).1).1, none, (beginL d (openAt (openL d).1) (tbytes L).1).2.2) else ((beginL d (openAt (openL d).1) (tbytes L).1).1, some ⟨(beginL d (openAt (openL d).1) (tbytes L).1).2.1, L⟩, 0) by
      rw [openT, HTE.out]; rfl)
    obtain ⟨d', l', e', hbe⟩ := begin_eq d (openAt (openL d).1) (tbytes L).1
    rw [hbe] at HEQ hD3 hL3 ⊢
    simp only at HEQ hD3 hL3 ⊢
    have D3 := hide hD3
    have L3 := hide hL3
    have O3 := hide o3
    have FF := hide (show ∀ i, F' i → F i ∨ w.heap.size ≤ i from fun i hi => by
      rcases hF3 i hi with h9 | h9
      · exact .inl h9
      · right; have h7 := B1.out.size; have h8 := B2.out.size; omega)
    have FF2 := hide hF3
    have OW := hide (show Only F w w3 from ((Only.of_below B1.out F).trans (Only.of_below B2.out F) (fun _ _ h => h)).trans o3 (fun i hi hf => by
      rcases hf with hf | hf
      · exact hf
      · have := HG.out.1; omega))
    clear hbe hD3 hL3 o3 hF3
    by_cases he : e' = 0
    · subst he
      have hmk := mkTb_run w3 (.pointer (some ⟨g, 0, none⟩)) (.pointer (some ⟨b, 0, none⟩)) (.slice A k c) rfl rfl rfl
      obtain ⟨w4, hw4⟩ : ∃ z, z = w3.alloc (.cells #[.pointer (some ⟨g, 0, none⟩), .pointer (some ⟨b, 0, none⟩), .slice A k c] 176) := ⟨_, rfl⟩
      have B4 := hide (show Below w3.heap.size w3 w4 by rw [hw4]; exact below_alloc (Below.refl _ _) _)
      have K4 := hide (show Blk w4 w3.heap.size 176 [.pointer (some ⟨g, 0, none⟩), .pointer (some ⟨b, 0, none⟩), .slice A k c] by rw [hw4]; exact Blk.new w3 _ _)
      go_wp2_with fail
      go_ret2
      rw [← hw4]
      have HQ : openT d = (d', some ⟨l', L⟩, 0) := by rw [HEQ.out]; simp
      rw [HQ]
      have h7 := OW.out.size
      have h8 := B1.out.size
      have h9 := B2.out.size
      have hlt := D3.out.lt
      refine ⟨F', D3.out.under B4.out, FF.out, OW.out.trans (Only.of_below B4.out F) (fun _ _ h => h), .inr ⟨⟨l', L⟩, w3.heap.size, g, rfl, rfl, h7, HG.out.1, A, k, c, xs, ?_, K4.out, fun hf => by have := hlt _ hf; omega, by have := HG.out; have := O3.out.size; omega, by have := HBW.out.size; omega, ?_, HX.out, HKC.out⟩⟩
      · refine ⟨D3.out.under B4.out, L3.out.under B4.out, fun hf => ?_, by have := HG.out; have := O3.out.size; have := B4.out.size; omega, by have := HG.out; have := HBW.out.size; omega, ?_, fun i hi => ?_⟩
        · rcases FF2.out g hf with h6 | h6
          · exact NG.out h6
          · have := HG.out.2; omega
        · exact (HBW.out.trans (OW.out.below HBW.out.size (fun i hi hf => by have := HF.out i hf; omega))).trans (B4.out.mono (by have := HBW.out.size; omega))
        · rcases FF.out i hi with h6 | h6
          · exact HF.out i h6
          · have := HBW.out.size; omega
      · refine ((HK.out.under B2.out).step (O3.out.mono (G := fun i => i < w.heap.size ∨ i = g) (fun i _ hf => ?_)) (G := fun i => F' i ∨ i = g ∨ i = w3.heap.size) (fun i hi hf => ?_)).under B4.out
        · rcases hf with hf | hf
          · exact .inl (HFL.out i hf)
          · exact .inr hf
        · rcases hf with hf | hf | hf
          · rcases FF2.out i hf with h6 | h6
            · exact .inl (HFL.out i h6)
            · omega
          · exact .inr hf
          · have := O3.out.size
            omega
    · have e1 : (e' != 0) = true := by simpa using he
      go_wp2_with fail
      go_ret2
      have HQ : openT d = (d', none, e') := by rw [HEQ.out]; simp [he]
      rw [HQ]
      exact ⟨F', D3.out, FF.out, OW.out, .inl ⟨rfl, rfl⟩⟩
  · have e1 : (er != 0) = true := by simpa using h0
    have HQ := hide (show openT d = (d, none, er) by rw [openT, HTE.out]; simp [h0])
    clear h0
    go_wp2_with fail
    go_ret2
    rw [HQ.out]
    exact ⟨F, D1.out, fun i h => .inl h, Only.of_below B1.out F, .inl ⟨rfl, rfl⟩⟩
end Go.Proofs.Ytjnpkcabkccaoaa
/-
  table: a batch more.
-/
namespace Go.Proofs.Ytjnpkcabkccaoaa
open Go.RowKit

theorem LogPost.trans {w w1 w2 : World} {g b : Nat} {F F1 : Nat → Prop} {r : Dev × LogD × Int} {e : Ending} (h1 : Only (fun i => F i ∨ i = g) w w1) (hF : ∀ i, F1 i → F i ∨ w.heap.size ≤ i) (h2 : LogPost w1 g b F1 r e w2) : LogPost w g b F r e w2 := by
  obtain ⟨he, F', hD, hL, ho, hF'⟩ := h2
  refine ⟨he, F', hD, hL, h1.trans ho (fun i hi hf => ?_), fun i hi => ?_⟩
  · rcases hf with hf | hf
    · rcases hF i hf with h9 | h9
      · exact .inl h9
      · omega
    · exact .inr hf
  · rcases hF' i hi with h9 | h9
    · exact hF i h9
    · right; have := h1.size; omega
theorem tab_cell0 {W : World} {t g b : Nat} {v : Value} (h : Blk W t 176 [.pointer (some ⟨g, 0, none⟩), .pointer (some ⟨b, 0, none⟩), v]) : W.cell? ⟨t, 0, none⟩ = some (.pointer (some ⟨g, 0, none⟩)) := h.c0
set_option maxHeartbeats 4000000 in
set_option maxRecDepth 100000 in
theorem keep_any (w : World) (t g b : Nat) (F : Nat → Prop) (d : Dev) (l : LogD) (v : Value) (A B : Option Addr) (n c m q : Nat) (xs ys : List Int) (hL : LogAt w g b l) (h : DevRep w b F d) (hdb : d.Bytes) (hgF : ¬ F g) (htF : ¬ F t) (htg : t ≠ g)
    (hT : Blk w t 176 [.pointer (some ⟨g, 0, none⟩), .pointer (some ⟨b, 0, none⟩), v]) (hA : Bys w A n xs) (hB : Bys w B m ys) (hap : Apart B m (fun i => F i ∨ i = g)) (hn : n ≤ 140737488355328) (hm : m ≤ 140737488355328) (hin : l.In) (hw : d.written.length ≤ 600000) :
    Calls Try.prog 121 #[.pointer (some ⟨t, 0, none⟩), .slice A n c, .slice B m q] w (LogPost w g b F (keepL d l xs ys)) := by
  have ha := hide (Add_any w g b F d l A n c xs hL h hdb hgF hA hn hin.1 (by have := hin.2; omega) (by omega))
  have GR := hide (addL_grew d l xs hA.2.1)
  have HT := hide hT
  have HB := hide hB
  have HAP := hide hap
  have HNF := hide (show ¬ F g ∧ ¬ F t ∧ t ≠ g from ⟨hgF, htF, htg⟩)
  have HW := hide hw
  have HM := hide hm
  have HDB := hide hdb
  have HLT := hide (show g < w.heap.size ∧ t < w.heap.size from ⟨hL.blk.lt, hT.lt⟩)
  have c0 := tab_cell0 hT
  have KE := hide (show keepL d l xs ys = if (addL d l xs).2.2 = 0 then syncL (addL d l xs).1 (addL d l xs).2.1 else if (addL d l xs).2.2 = 142 then beginL (addL d l xs).1 (addL d l xs).2.1 ys else addL d l xs from rfl)
  obtain ⟨d1, l1, e1, hr⟩ : ∃ d1 l1 e1, addL d l xs = (d1, l1, e1) := ⟨_, _, _, rfl⟩
  rw [hr] at ha GR KE
  simp only at GR KE
  clear hL h hdb hgF htF htg hT hA hB hap hn hm hin hw hr
  go_enter Try.func121, Try.ntmps121
  go_wp2_with fail
  refine ha.out.mono ?_
  rintro e w1 ⟨rfl, F1, hD1, hL1, o1, hF1⟩
  have D1 := hide hD1
  have L1 := hide hL1
  have O1 := hide o1
  have FF := hide hF1
  have T1 := hide (o1.blk HT.out (fun hf => by
    rcases hf with hf | hf
    · exact HNF.out.2.1 hf
    · exact HNF.out.2.2 hf))
  have NG := hide (show ¬ F1 g from fun hf => by
    rcases hF1 g hf with h9 | h9
    · exact HNF.out.1 h9
    · have := HLT.out.1; omega)
  have HB1 := hide (HB.out.keep o1 HAP.out)
  have W1 := hide (show d1.written.length ≤ 601000 by have := GR.out.many; have := HW.out; omega)
  have c0 := tab_cell0 T1.out
  clear hD1 hL1 o1 hF1 ha
  simp only
  by_cases h0 : e1 = 0
  · subst h0
    have KQ := hide (KE.out.trans (if_pos rfl))
    go_wp2_with fail
    refine (Sync_any w1 g b F1 d1 l1 L1.out D1.out NG.out (by have := W1.out; omega)).mono ?_
    rintro e w2 hp
    have HP := hide (LogPost.trans O1.out FF.out hp)
    obtain ⟨he, _⟩ := hp
    subst he
    go_wp2_with fail
    go_ret
    rw [KQ.out]
    exact HP.out
  · have q0 : (e1 == 0) = false := by simpa using h0
    by_cases h2 : e1 = 142
    · subst h2
      have KQ := hide (show keepL d l xs ys = beginL d1 l1 ys from KE.out)
      clear c0 q0 h0
      have c0 := tab_cell0 T1.out
      go_wp2_with fail
      refine (Begin_any w1 g b F1 d1 l1 B m q ys L1.out D1.out (GR.out.bytes HDB.out) NG.out HB1.out (fun hpos ad e hf => HAP.out hpos ad e (.inr hf)) HM.out (by have := W1.out; omega)).mono ?_
      rintro e w2 hp
      have HP := hide (LogPost.trans O1.out FF.out hp)
      obtain ⟨he, _⟩ := hp
      subst he
      go_wp2_with fail
      go_ret
      rw [KQ.out]
      exact HP.out
    · have q2 : (e1 == 142) = false := by simpa using h2
      have KQ := hide (show keepL d l xs ys = (d1, l1, e1) by rw [KE.out, if_neg h0, if_neg h2])
      clear h0 h2
      go_wp2_with fail
      go_ret
      rw [KQ.out]
      exact ⟨rfl, F1, D1.out, L1.out, O1.out, FF.out⟩
end Go.Proofs.Ytjnpkcabkccaoaa
/-
  table: Apply.
-/
namespace Go.Proofs.Ytjnpkcabkccaoaa
open Go.RowKit

theorem psize_small {w : World} {A : Option Addr} {n : Nat} {xs : List PairV} (h : PairsIn w A n xs) (hs : psize (xs.map PairV.d) ≤ 1000000000) : ∀ p ∈ xs, SmallP p := fun p hp => by
  have h1 := psize_mem (l := xs.map PairV.d) (p := p.d) (List.mem_map_of_mem hp)
  have h2 := (h.2.1 p hp).key.1
  have h3 := (h.2.1 p hp).value.1
  simp only [PairV.d] at h1
  exact ⟨by omega, by omega⟩
theorem LogW.turn {w0 W W' : World} {g b t : Nat} {F : Nat → Prop} {d : Dev} {l : LogD} (h : LogW w0 W g b F d l) (ho : Only (fun i => i = t) W W') (hF : ¬ F t) (hg : t ≠ g) (ht : w0.heap.size ≤ t) : LogW w0 W' g b F d l :=
  ⟨h.dev.keep ho (fun i hf e => hF (by have h9 : i = t := e; rw [← h9]; exact hf)), h.log.keep ho (fun e => hg e.symm), h.ng, Nat.lt_of_lt_of_le h.gl ho.size, h.g0, h.below.trans (ho.below h.below.size (fun i hi e => by have h9 : i = t := e; omega)), h.fresh⟩
def TabPost (w0 w : World) (t g b : Nat) (F : Nat → Prop) (r : Dev × TableD × Int) (e : Ending) (w' : World) : Prop :=
  e = .returned (.int .i64 r.2.2) ∧ ∃ F', TabW w0 w' t g b F' r.1 r.2.1 ∧ (∀ i, F' i → F i ∨ w.heap.size ≤ i) ∧ Only (fun i => F i ∨ i = g ∨ i = t) w w'
theorem TabG.cells {w0 W : World} {t g b : Nat} {F : Nat → Prop} {d : Dev} {T : TableD} {A : Option Addr} {k c : Nat} {xs : List PairV} (h : TabG w0 W t g b F d T A k c xs) :
    W.cell? ⟨t, 0, none⟩ = some (.pointer (some ⟨g, 0, none⟩)) ∧ W.cell? ⟨t, 1, none⟩ = some (.pointer (some ⟨b, 0, none⟩)) ∧ W.cell? ⟨t, 2, none⟩ = some (.slice A k c) := ⟨h.blk.c0, h.blk.c1, h.blk.c2⟩
theorem tab_same {w0 w w' : World} {t g b : Nat} {F : Nat → Prop} {d : Dev} {T : TableD} {r : Dev × TableD × Int} {x : Int} {e : Ending} (h : TabW w0 w' t g b F d T) (hb : Below w.heap.size w w') (hr : r = (d, T, x)) (he : e = .returned (.int .i64 x)) : TabPost w0 w t g b F r e w' := by
  subst hr
  exact ⟨he, F, h, fun i hf => .inl hf, Only.of_below hb _⟩
set_option maxHeartbeats 8000000 in
set_option maxRecDepth 100000 in
theorem Apply_any (w0 w : World) (t g b : Nat) (F : Nat → Prop) (d : Dev) (T : TableD) (A : Option Addr) (n c : Nat) (ys : List PairV) (hT : TabW w0 w t g b F d T) (hOk : T.Ok) (hdb : d.Bytes) (hw : d.written.length ≤ 600000) (hX : PairsIn w A n ys) (hnc : n ≤ c) (hn : n ≤ 1000000) (hs : psize (ys.map PairV.d) ≤ 10000000) :
    Calls Try.prog 73 #[.pointer (some ⟨t, 0, none⟩), .slice A n c] w (TabPost w0 w t g b F (applyT d T (ys.map PairV.d))) := by
  obtain ⟨A1, k1, c1, xs, hG⟩ := hT
  have H := hide hG
  have OK := hide hOk
  have HDB := hide hdb
  have HW := hide hw
  have HX := hide hX
  have HNC := hide hnc
  have HS := hide hs
  have HN := hide hn
  have n9 : (n : Int) ≤ 1000000 := by omega
  have n0 : (0 : Int) ≤ (n : Int) := by omega
  have hby := hide (PBytes_any w A n c ys hX (by omega) (by omega))
  have HSM := hide (psize_small hX (by omega))
  obtain ⟨L, hL⟩ : ∃ L, L = ys.map PairV.d := ⟨_, rfl⟩
  have HL := hide hL
  have HLN := hide (show L.length = n by rw [hL, List.length_map, hX.1])
  rw [← hL] at hby HS ⊢
  have AQ := hide (show applyT d T L = if T.log.ready = false then (d, T, 141) else if (tbytes L).2 ≠ 0 ∨ L = [] then (d, T, (tbytes L).2) else if fitsB d (tbytes (mergeD T.pairs L)).1.length = false then (d, T, 142) else ((keepL d T.log (tbytes L).1 (tbytes (mergeD T.pairs L)).1).1, ⟨(keepL d T.log (tbytes L).1 (tbytes (mergeD T.pairs L)).1).2.1, if (keepL d T.log (tbytes L).1 (tbytes (mergeD T.pairs L)).1).2.2 = 0 then mergeD T.pairs L else T.pairs⟩, (keepL d T.log (tbytes L).1 (tbytes (mergeD T.pairs L)).1).2.2) from rfl)
  have c0 := H.out.cells.1
  have c2 := H.out.cells.2.2
  clear hG hOk hdb hw hX hs hn hL hnc
  cases hr : T.log.ready with
  | false =>
    have Q := hide (show applyT d T L = (d, T, 141) by rw [AQ.out, if_pos hr])
    have hrd := hide (Ready_any w g b T.log H.out.log.log)
    rw [hr] at hrd
    clear hr
    go_enter Try.func73, Try.ntmps73
    go_wp2_with fail
    refine hrd.out.mono ?_
    rintro e wz ⟨rfl, rfl⟩
    go_wp2_with fail
    go_ret
    exact tab_same ⟨A1, k1, c1, xs, H.out⟩ (Below.refl _ _) Q.out rfl
  | true =>
    have hrd := hide (Ready_any w g b T.log H.out.log.log)
    rw [hr] at hrd
    have Q1 := hide (show applyT d T L = if (tbytes L).2 ≠ 0 ∨ L = [] then (d, T, (tbytes L).2) else if fitsB d (tbytes (mergeD T.pairs L)).1.length = false then (d, T, 142) else ((keepL d T.log (tbytes L).1 (tbytes (mergeD T.pairs L)).1).1, ⟨(keepL d T.log (tbytes L).1 (tbytes (mergeD T.pairs L)).1).2.1, if (keepL d T.log (tbytes L).1 (tbytes (mergeD T.pairs L)).1).2.2 = 0 then mergeD T.pairs L else T.pairs⟩, (keepL d T.log (tbytes L).1 (tbytes (mergeD T.pairs L)).1).2.2) by
      rw [AQ.out, if_neg (by rw [hr]; decide)])
    clear hr AQ
    obtain ⟨X, er, hX⟩ : ∃ X er, tbytes L = (X, er) := ⟨_, _, rfl⟩
    have HTB := hide hX
    rw [hX] at hby Q1
    simp only at Q1
    clear hX
    go_enter Try.func73, Try.ntmps73
    go_wp2_with fail
    refine hrd.out.mono ?_
    rintro e wz ⟨rfl, rfl⟩
    clear hrd
    go_wp2_with fail
    refine hby.out.mono ?_
    rintro e w2 ⟨A2, m2, c2', rfl, t2, f2⟩
    have T2 := hide t2
    have F2 := hide f2
    have B2 := hide t2.below
    have H2 := hide (H.out.under t2.below)
    have c02 := H2.out.cells.1
    have c22 := H2.out.cells.2.2
    clear t2 f2 hby c0 c2
    simp only
    by_cases h0 : er = 0
    · subst h0
      have q0 : ((0 : Int) != 0) = false := rfl
      by_cases hn0 : n = 0
      · subst hn0
        have Q := hide (show applyT d T L = (d, T, 0) by
          rw [Q1.out, if_pos (.inr (List.eq_nil_of_length_eq_zero HLN.out))])
        go_wp2_with fail
        go_ret
        exact tab_same ⟨A1, k1, c1, xs, H2.out⟩ B2.out Q.out rfl
      · have qn : ((n : Int) == 0) = false := by simp; omega
        have HNZ := hide (show L ≠ [] from fun e => hn0 (by rw [← HLN.out, e]; rfl))
        have Q2 := hide (show applyT d T L = if fitsB d (tbytes (mergeD T.pairs L)).1.length = false then (d, T, 142) else ((keepL d T.log X (tbytes (mergeD T.pairs L)).1).1, ⟨(keepL d T.log X (tbytes (mergeD T.pairs L)).1).2.1, if (keepL d T.log X (tbytes (mergeD T.pairs L)).1).2.2 = 0 then mergeD T.pairs L else T.pairs⟩, (keepL d T.log X (tbytes (mergeD T.pairs L)).1).2.2) by
          rw [Q1.out, if_neg]
          rintro (h9 | h9)
          · exact h9 rfl
          · exact HNZ.out h9)
        have HK1 := hide (show k1 ≤ 300000 by
          have h7 := right_len OK.out.right
          have h8 := OK.out.size
          have h9 := congrArg List.length H.out.data
          rw [List.length_map, H.out.keep.in_.1] at h9
          omega)
        clear hn0 Q1
        go_wp2_with fail
        refine (PMerge_any w2 A1 k1 c1 xs A n c ys H2.out.keep.in_ (HX.out.below' B2.out) H2.out.cap HNC.out (by have := HK1.out; omega) (by have := HN.out; omega) (right_small H2.out.keep.in_ (by rw [H2.out.data]; exact OK.out.right)) HSM.out).mono ?_
        rintro e w3 ⟨A6, k6, c6, us, rfl, hud, hrow, b3⟩
        rw [H2.out.data, ← HL.out] at hud
        have HUD := hide hud
        have HROW := hide hrow
        have B3 := hide b3
        have H3 := hide (H2.out.under b3)
        have HK6 := hide (show k6 ≤ 2000000 by
          have h6 := merge_len T.pairs L
          have h7 := congrArg List.length hud
          rw [List.length_map, hrow.len] at h7
          have h8 := HLN.out
          have h9 := congrArg List.length H.out.data
          rw [List.length_map, H.out.keep.in_.1] at h9
          have := HK1.out; have := HN.out
          omega)
        have HPS := hide (show psize (mergeD T.pairs L) ≤ 20000000 by
          have h6 := merge_size T.pairs L
          have h7 := OK.out.size
          have h8 := HS.out
          omega)
        clear c02 c22 hud hrow b3
        have hby := hide (PBytes_any w3 A6 k6 c6 us HROW.out.in_ (by have := HK6.out; omega) (by rw [HUD.out]; have := HPS.out; omega))
        rw [HUD.out] at hby
        go_wp2_with fail
        refine hby.out.mono ?_
        rintro e w4 ⟨A4, m4, c4, rfl, t4, f4⟩
        have T4 := hide t4
        have F4 := hide f4
        have B4 := hide t4.below
        have H4 := hide (H3.out.under t4.below)
        have M4 := hide (show (tbytes (mergeD T.pairs L)).1.length = m4 ∧ m4 ≤ 100000000 by
          have h5 := t4.len
          have h6 := tbytes_len (mergeD T.pairs L)
          have h7 := HPS.out
          have h8 := merge_len T.pairs L
          have h9 := congrArg List.length H.out.data
          rw [List.length_map, H.out.keep.in_.1] at h9
          have := HK1.out; have := HN.out; have := HLN.out
          exact ⟨h5, by omega⟩)
        have B24 := hide (Below.then_ B2.out (Below.then_ B3.out B4.out))
        have US4 := hide (show PKeep w4 (fun i => i < w2.heap.size) A6 k6 us from HROW.out.stay.under B4.out)
        have X4 := hide (show Bys w4 A2 m2 X from (T2.out.bys.below B3.out).below B4.out)
        have NX := hide (show m2 ≤ 100000000 by
          have h5 := T2.out.len
          have h6 := tbytes_len L
          have h7 := HS.out
          have h8 := HLN.out
          have h9 := HN.out
          rw [HTB.out] at h6
          have h10 : X.length ≤ 9 + psize L + 20 * L.length := h6
          omega)
        have HAP := hide (show Apart A4 m4 (fun i => F i ∨ i = g) from fun _ ad e hf => by
          have h5 := F4.out ad e
          have h6 := B3.out.size
          have h7 := H3.out.log.dev.lt
          rcases hf with hf | hf
          · have := h7 _ hf; omega
          · have := H3.out.log.gl; have h9 : ad.block = g := hf; omega)
        obtain ⟨W, hW⟩ : ∃ W, W = (tbytes (mergeD T.pairs L)).1 := ⟨_, rfl⟩
        have HTW := hide (show Bys w4 A4 m4 W by rw [hW]; exact t4.bys)
        rw [← hW] at Q2 M4
        have m49 : (m4 : Int) ≤ 100000000 := by have := M4.out.2; omega
        have m40 : (0 : Int) ≤ (m4 : Int) := by omega
        have hfit := hide (Fits_any w4 b F d H4.out.log.dev (m4 : Int) (by omega))
        have y0 := H4.out.cells.1
        have y1 := H4.out.cells.2.1
        have y2 := H4.out.cells.2.2
        clear t4 f4 hby hW
        simp only
        go_wp2_with fail
        refine hfit.out.mono ?_
        rintro e wz ⟨rfl, rfl⟩
        clear hfit
        rw [M4.out.1] at Q2
        cases hf : fitsB d (m4 : Int) with
        | false =>
          have Q := hide (show applyT d T L = (d, T, 142) by rw [Q2.out, if_pos hf])
          clear hf
          go_wp2_with fail
          go_ret
          exact tab_same ⟨A1, k1, c1, xs, H4.out⟩ B24.out Q.out rfl
        | true =>
          have Q3 := hide (show applyT d T L = ((keepL d T.log X W).1, ⟨(keepL d T.log X W).2.1, if (keepL d T.log X W).2.2 = 0 then mergeD T.pairs L else T.pairs⟩, (keepL d T.log X W).2.2) by rw [Q2.out, if_neg (by rw [hf]; decide)])
          have hkp := hide (keep_any w4 t g b F d T.log (.slice A1 k1 c1) A2 A4 m2 c2' m4 c4 X W H4.out.log.log H4.out.log.dev HDB.out H4.out.log.ng H4.out.nt H4.out.ne H4.out.blk X4.out HTW.out HAP.out (by have := NX.out; omega) (by have := M4.out.2; omega) OK.out.log HW.out)
          obtain ⟨d5, l5, e5, hkl⟩ : ∃ d5 l5 e5, keepL d T.log X W = (d5, l5, e5) := ⟨_, _, _, rfl⟩
          rw [hkl] at Q3 hkp
          simp only at Q3
          clear hf hkl Q2 y0 y1 y2
          go_wp2_with fail
          refine hkp.out.mono ?_
          rintro e w5 hp
          obtain ⟨he, F', HL5, hF', o5⟩ := H4.out.log.post hp
          subst he
          have L5 := hide HL5
          have FF := hide hF'
          have O5 := hide o5
          have K5 := hide (o5.blk H4.out.blk (fun hf => by
            rcases hf with hf | hf
            · exact H4.out.nt hf
            · exact H4.out.ne hf))
          have LT4 := hide (show (∀ i, F i → i < w2.heap.size) ∧ g < w2.heap.size ∧ t < w2.heap.size from ⟨fun i hi => H2.out.log.dev.lt i hi, H2.out.log.gl, H2.out.blk.lt⟩)
          have S24 := hide (show w2.heap.size ≤ w4.heap.size ∧ w.heap.size ≤ w2.heap.size by have := B3.out.size; have := B4.out.size; have := B2.out.size; omega)
          have NT := hide (show ¬ F' t from fun hf => by
            rcases hF' t hf with h9 | h9
            · exact H4.out.nt h9
            · have := LT4.out.2.2; have := S24.out; omega)
          have FW := hide (show ∀ i, F' i → F i ∨ w.heap.size ≤ i from fun i hi => by
            rcases hF' i hi with h9 | h9
            · exact .inl h9
            · right; have := S24.out; omega)
          have OW := hide (show Only (fun i => F i ∨ i = g ∨ i = t) w w5 from (Only.of_below B24.out _).trans o5 (fun i _ hf => by
            rcases hf with hf | hf
            · exact .inl hf
            · exact .inr (.inl hf)))
          clear HL5 hF' o5 hp hkp
          simp only
          by_cases h5 : e5 = 0
          · subst h5
            have Q := hide (show applyT d T L = (d5, ⟨l5, mergeD T.pairs L⟩, 0) by rw [Q3.out, if_pos rfl])
            have c2 := K5.out.c2
            have f2 := K5.out.frozen 2
            have O6 := hide (Only.cell1 w5 t 2 (.slice A6 k6 c6))
            have L6 := hide (L5.out.turn O6.out NT.out H4.out.ne H4.out.t0)
            have K6 := hide (show Blk (w5.setCell ⟨t, 2, none⟩ (.slice A6 k6 c6)) t 176 [.pointer (some ⟨g, 0, none⟩), .pointer (some ⟨b, 0, none⟩), .slice A6 k6 c6] from K5.out.set_ 2 _)
            have US5 := hide (show PKeep w5 (fun i => F' i ∨ i = g ∨ i = t) A6 k6 us from US4.out.step (O5.out.mono (fun i _ hf => by
              rcases hf with hf | hf
              · exact LT4.out.1 i hf
              · have h9 : i = g := hf; have := LT4.out.2.1; show i < w2.heap.size; omega)) (fun i hi hf => by
              rcases hf with hf | hf | hf
              · rcases FF.out i hf with h9 | h9
                · exact LT4.out.1 i h9
                · omega
              · have h9 : i = g := hf; have := LT4.out.2.1; show i < w2.heap.size; omega
              · have h9 : i = t := hf; have := LT4.out.2.2; show i < w2.heap.size; omega))
            go_wp2_with fail
            go_ret
            rw [Q.out]
            refine ⟨rfl, F', ⟨A6, k6, c6, us, L6.out, K6.out, NT.out, H4.out.ne, H4.out.t0, US5.out.step (O6.out.mono fun i _ hf => .inr (.inr hf)) (fun _ _ h => h), HUD.out, HROW.out.cap⟩, FW.out, OW.out.trans O6.out (fun i _ hf => .inr (.inr hf))⟩
          · have q5 : (e5 != 0) = true := by simpa using h5
            have Q := hide (show applyT d T L = (d5, ⟨l5, T.pairs⟩, e5) by rw [Q3.out, if_neg h5])
            clear h5
            go_wp2_with fail
            go_ret
            rw [Q.out]
            refine ⟨rfl, F', ⟨A1, k1, c1, xs, L5.out, K5.out, NT.out, H4.out.ne, H4.out.t0, H4.out.keep.step (O5.out.mono (fun i _ hf => by
              rcases hf with hf | hf
              · exact .inl hf
              · exact .inr (.inl hf))) (fun i hi hf => ?_), H4.out.data, H4.out.cap⟩, FW.out, OW.out⟩
            rcases hf with hf | hf
            · rcases FF.out i hf with h9 | h9
              · exact .inl h9
              · omega
            · exact .inr hf
    · have q0 : (er != 0) = true := by simpa using h0
      have Q := hide (show applyT d T L = (d, T, er) by rw [Q1.out, if_pos (.inl h0)])
      clear h0
      go_wp2_with fail
      go_ret
      exact tab_same ⟨A1, k1, c1, xs, H2.out⟩ B2.out Q.out rfl
end Go.Proofs.Ytjnpkcabkccaoaa
