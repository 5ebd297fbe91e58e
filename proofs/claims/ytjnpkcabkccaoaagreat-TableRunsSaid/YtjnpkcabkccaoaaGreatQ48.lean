/- Lemmas and walks for TableRuns, packed. -/
import Derived.Test.YtjnpkcabkccaoaaGreatQ47
import Derived.Test.YtjnpkcabkccaoaaGreatQ34
import Derived.Test.YtjnpkcabkccaoaaGreatQ32
set_option maxRecDepth 100000
set_option maxHeartbeats 16000000
namespace Go.Proofs.YtjnpkcabkccaoaaGreat
open Go.RowKit
section
theorem str_to (bs : List Int) (j : Nat) (hj : j ≤ bs.length) (w : World) : (Instr.slice 9 (.string (ba bs)) none (some (.int .i64 (j : Int))) none).run Tryz.prog w = .ok (.string (ba (bs.take j))) w := by
 rw [run_slice_string_h w 9 (ba bs) Tryz.underlying9 .i64 (j : Int) (by omega) (by rw [ba_size]; omega), Int.toNat_natCast, ba_extract, List.drop_zero, Nat.sub_zero]
def asked (l : List PairD) (pre from_ : List Int) (most : Int) : List PairD := (l.filter (inRange pre from_)).take most.toNat
theorem asked_step {l : List PairD} {j : Nat} {p : PairD} (h : l[j]? = some p) (pre from_ : List Int) (most : Int) :
  asked (l.take (j + 1)) pre from_ most = if (inRange pre from_ p && decide (((asked (l.take j) pre from_ most).length : Int) < most)) = true then asked (l.take j) pre from_ most ++ [p] else asked (l.take j) pre from_ most := by
 unfold asked
 rw [List.take_add_one, h, Option.toList_some, List.filter_append]
 cases hp : inRange pre from_ p with
 | false => simp [hp]
 | true =>
  obtain ⟨M, hM⟩ : ∃ M, M = most.toNat := ⟨_, rfl⟩
  obtain ⟨F, hF⟩ : ∃ F, F = (l.take j).filter (inRange pre from_) := ⟨_, rfl⟩
  rw [← hM, ← hF]
  simp only [List.filter_cons, hp, List.filter_nil, if_true, Bool.true_and, List.length_take]
  by_cases hc : ((min M F.length : Nat) : Int) < most
  ·rw [if_pos (decide_eq_true hc), List.take_of_length_le (by omega : F.length ≤ M), List.take_of_length_le (by rw [List.length_append, List.length_singleton]; omega)]
  ·rw [if_neg (by rw [decide_eq_false hc]; decide), List.take_append_of_le_length (by omega)]
attribute [local go_sem ↓] loadPr_fold mkPrs1_fold
theorem refRange_any (w : World) (A : Option Addr) (n c : Nat) (xs : List PairV) (hX : PairsIn w A n xs) (hn : n ≤ 100000000000) (pre from_ : List Int) (hP : Byt pre) (hF : Byt from_) (most : Int) :
  Calls Tryz.prog 20 #[.slice A n c, .string (ba pre), .string (ba from_), .int .i64 most] w fun e w' => ∃ (g k c' : Nat) (zs : List PairV), e = .returned (.slice (some ⟨g, 0, none⟩) k c') ∧ zs.map PairV.d = asked (xs.map PairV.d) pre from_ most ∧ RRow w w' g k c' zs ∧ ∀ z ∈ zs, z ∈ xs := by
 have HX := hide hX
 have n9 : (n : Int) ≤ 100000000000 := by omega
 obtain ⟨L, hL⟩ : ∃ L, L = xs.map PairV.d := ⟨_, rfl⟩
 have HL := hide hL
 rw [← hL]
 have LL := hide (show L.length = n by rw [hL, List.length_map, hX.1])
 obtain ⟨SP, hSP⟩ : ∃ S, S = ba pre := ⟨_, rfl⟩
 obtain ⟨SF, hSF⟩ : ∃ S, S = ba from_ := ⟨_, rfl⟩
 obtain ⟨m, hm⟩ : ∃ m, m = pre.length := ⟨_, rfl⟩
 have xp : SP.size = m := by rw [hSP, ba_size, hm]
 have HSP := hide hSP
 have HSF := hide hSF
 have HM := hide hm
 have HPF := hide (And.intro hP hF)
 rw [← hSP, ← hSF]
 obtain ⟨w0, hw0⟩ : ∃ z, z = w.alloc (.cells #[] 59) := ⟨_, rfl⟩
 have R0 := hide (show RRow w w0 w.heap.size 0 0 [] by rw [hw0]; exact RRow.empty w)
 clear hX hL hSP hSF hm hP hF hn
 go_enter Tryz.func20, Tryz.ntmps20
 go_wp2_with fail
 rw [← hw0]
 clear hw0
 go_loopw [9, 11, 12, 16] (fun v _ _ i ws => ∃ (j g k c4 : Nat) (zs : List PairV), j ≤ n ∧ i = .int .i64 (j : Int) ∧ v = .slice (some ⟨g, 0, none⟩) k c4 ∧ RRow w ws g k c4 zs ∧ zs.map PairV.d = asked (L.take j) pre from_ most ∧ (∀ z ∈ zs, z ∈ xs) ∧ k ≤ j) (fun _ _ _ i _ => n - (intOf i).toNat)
 case atStart => exact ⟨0, w.heap.size, 0, 0, [], Nat.zero_le _, rfl, rfl, R0.out, by simp [asked], by simp, Nat.le_refl _⟩
 case round =>
  clear R0
  obtain ⟨j, g, k, c4, zs, hj, rfl, rfl, hr, hz, hmem, hkj⟩ := hrel
  obtain ⟨wo, rfl⟩ : ∃ wo : World, wo = wr := ⟨_, rfl⟩
  have HR := hide hr
  have HZ := hide hz
  have HMEM := hide hmem
  have HKJ := hide hkj
  have XR := hide (HX.out.below' hr.below)
  clear hr hz hmem
  by_cases hlt : j < n
  ·obtain ⟨xb, xo, hxa, hxr⟩ := XR.out.2.2 (by omega)
   subst hxa
   obtain ⟨x, hx⟩ : ∃ x, xs[j]? = some x := ⟨_, List.getElem?_eq_getElem (by rw [XR.out.1]; exact hlt)⟩
   have HXI := hide (List.mem_of_getElem? hx)
   have XF := hide (XR.out.2.1 x (List.mem_of_getElem? hx))
   have hld := loadPr_run wo xb (xo + j * 3) x (hxr j x hx)
   have HST := hide (asked_step (show L[j]? = some x.d by rw [HL.out]; exact pmap_get hx) pre from_ most)
   have HLT := hide hlt
   have j0 : (0 : Int) ≤ (j : Int) := by omega
   have j1 : (j : Int) < (n : Int) := by omega
   have k9 : (k : Int) ≤ 100000000000 := by omega
   obtain ⟨SK, hSK⟩ : ∃ S, S = ba x.key := ⟨_, rfl⟩
   have HSK := hide hSK
   have HKB := hide (show Byt x.key from XF.out.key.2.1)
   obtain ⟨q, hq⟩ : ∃ q, q = x.key.length := ⟨_, rfl⟩
   have xq : SK.size = q := by rw [hSK, ba_size, hq]
   have HQ := hide hq
   have hstr := fun (h : m ≤ x.key.length) w => str_to x.key m h w
   rw [← hSK] at hstr
   have HSTR := hide hstr
   have tokA : True := trivial
   have tokB : True := trivial
   clear hx hxr hlt hj hkj hSK hq hstr
   go_upto_region 6 with (first
    | (have _t := tokA; clear _t tokA; refine wpList_alloc_agg rfl 59 rfl zeroPr zeroPr_info ?_; simp only [pU])
    | (have _t := tokB; clear _t tokB; refine pr_store rfl _ _ rfl wo rfl (by rfl) x (by rfl) ?_; intro w5 b5 s5 k5; have B5 := hide b5; have K5 := hide k5; have x0 := k5.c0; have sx := run_str w5 x.kA x.kN x.kC x.key (XF.out.key.below b5); rw [← HSK.out] at sx; clear b5 s5 k5 hld; simp only [Act.put]))
   clear x0 sx
   obtain ⟨B, hB⟩ : ∃ B : Bool, B = (inRange pre from_ x.d && decide (((asked (L.take j) pre from_ most).length : Int) < most)) := ⟨_, rfl⟩
   have HB := hide hB
   have hkl : (asked (L.take j) pre from_ most).length = k := by rw [← HZ.out, List.length_map, HR.out.len]
   rw [hkl, inRange, preB, show x.d.key = x.key from rfl, ← HM.out, ← HQ.out] at hB
   clear hkl
   go_cut [46] (fun t w' => w' = w5 ∧ t = .bool B)
   case first =>
    by_cases h1 : m ≤ q
    ·have i1 : (m : Int) ≤ (q : Int) := by omega
     have hs := HSTR.out (by rw [← HQ.out]; exact h1)
     rw [decide_eq_true h1, Bool.true_and] at hB
     by_cases h2 : x.key.take m = pre
     ·rw [h2, ← HSP.out] at hs
      rw [decide_eq_true h2, Bool.true_and] at hB
      have hls := less_ba x.key from_ HKB.out HPF.out.2
      rw [← HSK.out, ← HSF.out] at hls
      by_cases h3 : lex x.key from_ < 0
      ·rw [decide_eq_true h3] at hls hB
       have e : B = false := hB
       clear h1 h2 h3 hB
       go_wp2_with fail
       go_meet
       case rel => exact ⟨rfl, by rw [e]⟩
      ·rw [decide_eq_false h3] at hls hB
       by_cases h4 : (k : Int) < most
       ·have e : B = true := by rw [hB, decide_eq_true h4]; rfl
        clear h1 h2 h3 hB
        go_wp2_with fail
        go_meet
        case rel => exact ⟨rfl, by rw [e]⟩
       ·have e : B = false := by rw [hB, decide_eq_false h4]; rfl
        clear h1 h2 h3 hB
        go_wp2_with fail
        go_meet
        case rel => exact ⟨rfl, by rw [e]⟩
     ·obtain ⟨Y, hY⟩ : ∃ Y, Y = ba (x.key.take m) := ⟨_, rfl⟩
      have hbe : (Y.toList == SP.toList) = false := by
       rw [hY, HSP.out, baBeq _ _ (fun z hz => HKB.out z (List.mem_of_mem_take hz)) HPF.out.1]
       exact decide_eq_false h2
      rw [← hY] at hs
      rw [decide_eq_false h2] at hB
      have e : B = false := hB
      clear h1 h2 hB hY
      go_wp2_with fail
      go_meet
      case rel => exact ⟨rfl, by rw [e]⟩
    ·have i1 : ¬ (m : Int) ≤ (q : Int) := by omega
     rw [decide_eq_false h1] at hB
     have e : B = false := hB
     clear h1 hB
     go_wp2_with fail
     go_meet
     case rel => exact ⟨rfl, by rw [e]⟩
   case rest =>
    obtain ⟨hw, rfl⟩ := hcut
    rw [hw]
    clear hw hB wc
    cases hC : B with
    | false =>
     have HE := hide (show asked (L.take (j + 1)) pre from_ most = asked (L.take j) pre from_ most by rw [HST.out, if_neg (by rw [← HB.out, hC]; decide)])
     clear hC
     go_wp2_with fail
     exact ⟨⟨j + 1, g, k, c4, zs, by have := HLT.out; omega, by go_num, rfl, HR.out.under B5.out, by rw [HE.out]; exact HZ.out, HMEM.out, by have := HKJ.out; omega⟩, by have := HLT.out; simp [intOf]; omega⟩
    | true =>
     have HE := hide (show asked (L.take (j + 1)) pre from_ most = asked (L.take j) pre from_ most ++ [x.d] by rw [HST.out, if_pos (by rw [← HB.out, hC])])
     have hld := loadPr_run w5 wo.heap.size 0 x K5.out.whole
     obtain ⟨wc, hwc⟩ : ∃ z, z = w5.alloc (.cells x.cells.toArray 59) := ⟨_, rfl⟩
     have hmks := mkPrs1_run w5 x
     rw [← hwc] at hmks
     have Bc := hide (show Below w5.heap.size w5 wc by rw [hwc]; exact below_alloc (Below.refl _ _) _)
     have RC := hide ((HR.out.under B5.out).under Bc.out)
     have NB := hide (show wc.rangeAt w5.heap.size 0 x.cells by rw [hwc]; exact (Blk.new w5 _ _).whole)
     clear hC hwc
     go_wp2_with (at_builtin; refine wpListRow rfl 50 rfl _ _ 37 rfl 59 3 56 Tryz.underlying37 pr_infoR (by decide) w.heap.size (.slice (some ⟨g, 0, none⟩) k c4) k _ (by rfl) RC.out.row RC.out.below.size w5.heap.size 0 1 1 x.cells (by rfl) rfl NB.out (PairV.one x) (by have := HKJ.out; have := HLT.out; omega) (by decide) ?_; intro A9 c9 w9 q1 q2 q3 q4; obtain ⟨g9, rfl, r9⟩ := RC.out.app q1 q2 q4; have R9 := hide r9; clear q1 q2 q3 q4 hmks r9; simp only [pU])
     refine ⟨⟨j + 1, g9, k + 1, c9, zs ++ [x], by have := HLT.out; omega, by go_num, rfl, R9.out, by rw [HE.out, List.map_append, HZ.out]; rfl, fun z hz => ?_, by have := HKJ.out; omega⟩, by have := HLT.out; simp [intOf]; omega⟩
     rcases List.mem_append.1 hz with h9 | h9
     ·exact HMEM.out z h9
     ·rw [List.mem_singleton.1 h9]; exact HXI.out
  ·have i1 : ¬ (j : Int) < (n : Int) := by omega
   have HE := hide (show asked (L.take j) pre from_ most = asked L pre from_ most by rw [List.take_of_length_le (by rw [LL.out]; omega)])
   clear hlt
   go_wp2_with fail
   go_ret
   exact ⟨g, k, c4, rfl, zs, by rw [HZ.out, HE.out], HR.out, HMEM.out⟩
theorem Told_tab (w : World) (b : Nat) (F : Nat → Prop) (d : Dev) (h : DevRep w b F d) (hb : d.Bytes) :
  Calls Tryz.prog 16 #[.pointer (some ⟨b, 0, none⟩)] w (ToldPost w (toldT d)) := by
 have hr := hide (read_tab w b F d h hb)
 clear h hb
 go_enter Tryz.func16, Tryz.ntmps16
 go_wp2_with fail
 refine hr.out.mono ?_
 rintro e w1 ⟨g, A, k, c, xs, rfl, hL, hg, hg1, hx, hkc, hk, b1⟩
 have B1 := hide b1
 have HK := hide (And.intro hx hkc)
 have KK := hide (hk.mono (G := fun i => i < w.heap.size) fun i _ h => .inl h)
 clear hr hL hg hg1 hx hkc hk b1
 go_wp2_with fail
 go_ret2
 exact ⟨B1.out, A, k, c, xs, rfl, HK.out.1, HK.out.2, KK.out⟩
end
theorem syncL_ok {d : Dev} (h : d.Ok) (l : LogD) : (syncL d l).1.Ok := by
 unfold syncL
 split
 ·exact h
 ·exact h.sync
theorem beginL_ok {d : Dev} (h : d.Ok) (l : LogD) (b : List Int) : (beginL d l b).1.Ok := by
 unfold beginL
 split
 ·exact h
 ·have h1 := writeL_ok h (1 - l.half) 0 (sealedB (topL d + 1)) (topL d + 1)
  have h2 := writeL_ok h1 (1 - l.half) 1 (boundB 1 b (sealB (topL d + 1))) (topL d + 1)
  simp only
  split
  ·exact h1
  ·split
   ·exact h2
   ·split
    ·exact h2.sync
    ·exact h2.sync
theorem keepL_ok {d : Dev} (h : d.Ok) (l : LogD) (a b : List Int) : (keepL d l a b).1.Ok := by
 unfold keepL
 simp only
 split
 ·exact syncL_ok (addL_ok h _ _) _
 ·split
  ·exact beginL_ok (addL_ok h _ _) _ _
  ·exact addL_ok h _ _
theorem applyT_okd {d : Dev} (h : d.Ok) (t : TableD) (l : List PairD) : (applyT d t l).1.Ok := by
 unfold applyT
 split
 ·exact h
 ·split
  ·exact h
  ·split
   ·exact h
   ·exact keepL_ok h _ _ _
theorem openT_okd {d : Dev} (h : d.Ok) : (openT d).1.Ok := by
 unfold openT
 split
 ·exact h
 ·simp only
  split
  ·exact beginL_ok h _ _
  ·exact beginL_ok h _ _
structure HalfP (H : Nat → Prop) (w0 W : World) (b : Nat) (tv : Value) (d : Dev) (o : Option TableD) (P : Nat → Prop) : Prop where
 below : Below w0.heap.size w0 W
 ge : ∀ i, P i → w0.heap.size ≤ i ∧ i < W.heap.size
 st : (o = none ∧ tv = .pointer none ∧ ∃ F, DevRep W b F d ∧ ∀ i, F i → P i) ∨
  ∃ (T : TableD) (t g : Nat) (F : Nat → Prop), o = some T ∧ tv = .pointer (some ⟨t, 0, none⟩) ∧ TabW H w0 W t g b F d T ∧ (∀ i, F i ∨ i = g ∨ i = t → P i) ∧ T.Ok
structure HalfD (H : Nat → Prop) (w0 W : World) (b : Nat) (tv : Value) (d : Dev) (o : Option TableD) (P : Nat → Prop) : Prop where
 below : Below w0.heap.size w0 W
 ge : ∀ i, P i → w0.heap.size ≤ i ∧ i < W.heap.size
 st : (o = none ∧ tv = .pointer none ∧ ∃ F, DocRep W b F d ∧ ∀ i, F i → P i) ∨
  ∃ (T : TableD) (t g : Nat) (F : Nat → Prop), o = some T ∧ tv = .pointer (some ⟨t, 0, none⟩) ∧ RTabW H w0 W t g b F d T ∧ (∀ i, F i ∨ i = g ∨ i = t → P i)
theorem TabW.dev {H : Nat → Prop} {w0 W W' : World} {t g b : Nat} {F F' : Nat → Prop} {d d' : Dev} {T : TableD} (h : TabW H w0 W t g b F d T) (hd : DevRep W' b F' d') (ho : Only F W W') (hF : ∀ i, F' i → F i ∨ W.heap.size ≤ i) : TabW H w0 W' t g b F' d' T := by
 obtain ⟨A, k, c, xs, h⟩ := h
 have hold : ∀ i, i < W.heap.size → F' i → F i := fun i hi hf => by
  rcases hF i hf with h9 | h9
  ·exact h9
  ·omega
 exact ⟨A, k, c, xs, ⟨hd, h.log.log.keep ho h.log.ng, fun hf => h.log.ng (hold _ h.log.gl hf), Nat.lt_of_lt_of_le h.log.gl ho.size, h.log.g0, ho.under h.log.below h.log.fresh, fun i hi => by
   rcases hF i hi with h9 | h9
   ·exact h.log.fresh i h9
   ·have := h.log.below.size; omega⟩, ho.blk h.blk h.nt, fun hf => h.nt (hold _ h.blk.lt hf), h.ne, h.t0,
  h.keep.step (ho.mono fun i _ hf => .inl hf) (fun i hi hf => hf.imp (hold i hi) id), h.data, h.cap⟩
theorem RTabW.dev {H : Nat → Prop} {w0 W W' : World} {t g b : Nat} {F F' : Nat → Prop} {d d' : Dev} {T : TableD} (h : RTabW H w0 W t g b F d T) (hd : DocRep W' b F' d') (ho : Only F W W') (hF : ∀ i, F' i → F i ∨ W.heap.size ≤ i) : RTabW H w0 W' t g b F' d' T := by
 obtain ⟨A, k, c, xs, h⟩ := h
 obtain ⟨S, hs⟩ := h.log.log
 have hold : ∀ i, i < W.heap.size → F' i → F i := fun i hi hf => by
  rcases hF i hf with h9 | h9
  ·exact h9
  ·omega
 exact ⟨A, k, c, xs, ⟨hd, ⟨S, hs.keep ho h.log.ng⟩, fun hf => h.log.ng (hold _ h.log.gl hf), Nat.lt_of_lt_of_le h.log.gl ho.size, h.log.g0, ho.under h.log.below h.log.fresh, fun i hi => by
   rcases hF i hi with h9 | h9
   ·exact h.log.fresh i h9
   ·have := h.log.below.size; omega⟩, ho.blk h.blk h.nt, fun hf => h.nt (hold _ h.blk.lt hf), h.ne, h.t0,
  h.keep.step (ho.mono fun i _ hf => .inl hf) (fun i hi hf => hf.imp (hold i hi) id), h.data, h.cap⟩
section
variable {H : Nat → Prop} {w0 W : World} {b : Nat} {tv : Value} {d : Dev} {o : Option TableD} {P : Nat → Prop}
theorem HalfP.dev (h : HalfP H w0 W b tv d o P) : ∃ F, DevRep W b F d ∧ (∀ i, F i → P i) ∧ ∀ (W' : World) (d' : Dev) (F' : Nat → Prop), DevRep W' b F' d' → Only F W W' → (∀ i, F' i → F i ∨ W.heap.size ≤ i) →
  ∃ P', HalfP H w0 W' b tv d' o P' ∧ (∀ i, P' i → P i ∨ W.heap.size ≤ i) ∧ Only P W W' := by
 rcases h.st with ⟨h1, h2, F, hD, hFP⟩ | ⟨T, t, g, F, h1, h2, hT, hFP, hOk⟩
 ·refine ⟨F, hD, hFP, fun W' d' F' hD' ho hF => ⟨F', ⟨ho.under h.below fun i hi => (h.ge i (hFP i hi)).1, fun i hi => ⟨?_, hD'.lt i hi⟩, .inl ⟨h1, h2, F', hD', fun _ h => h⟩⟩, fun i hi => (hF i hi).imp (hFP i) id, ho.mono fun i _ hi => hFP i hi⟩⟩
  rcases hF i hi with h9 | h9
  ·exact (h.ge i (hFP i h9)).1
  ·have := h.below.size; omega
 ·refine ⟨F, by obtain ⟨A, k, c, xs, hG⟩ := hT; exact hG.log.dev, fun i hi => hFP i (.inl hi), fun W' d' F' hD' ho hF => ⟨fun i => F' i ∨ i = g ∨ i = t, ⟨ho.under h.below fun i hi => (h.ge i (hFP i (.inl hi))).1, fun i hi => ?_, .inr ⟨T, t, g, F', h1, h2, hT.dev hD' ho hF, fun _ h => h, hOk⟩⟩, fun i hi => ?_, ho.mono fun i _ hi => hFP i (.inl hi)⟩⟩
  ·have hs := ho.size
   rcases hi with hi | hi
   ·refine ⟨?_, hD'.lt i hi⟩
    rcases hF i hi with h9 | h9
    ·exact (h.ge i (hFP i (.inl h9))).1
    ·have := h.below.size; omega
   ·have := h.ge i (hFP i (.inr hi)); omega
  ·rcases hi with hi | hi
   ·exact (hF i hi).imp (fun h => hFP i (.inl h)) id
   ·exact .inl (hFP i (.inr hi))
theorem HalfD.dev (h : HalfD H w0 W b tv d o P) : ∃ F, DocRep W b F d ∧ (∀ i, F i → P i) ∧ ∀ (W' : World) (d' : Dev) (F' : Nat → Prop), DocRep W' b F' d' → Only F W W' → (∀ i, F' i → F i ∨ W.heap.size ≤ i) →
  ∃ P', HalfD H w0 W' b tv d' o P' ∧ (∀ i, P' i → P i ∨ W.heap.size ≤ i) ∧ Only P W W' := by
 rcases h.st with ⟨h1, h2, F, hD, hFP⟩ | ⟨T, t, g, F, h1, h2, hT, hFP⟩
 ·refine ⟨F, hD, hFP, fun W' d' F' hD' ho hF => ⟨F', ⟨ho.under h.below fun i hi => (h.ge i (hFP i hi)).1, fun i hi => ⟨?_, hD'.lt i hi⟩, .inl ⟨h1, h2, F', hD', fun _ h => h⟩⟩, fun i hi => (hF i hi).imp (hFP i) id, ho.mono fun i _ hi => hFP i hi⟩⟩
  rcases hF i hi with h9 | h9
  ·exact (h.ge i (hFP i h9)).1
  ·have := h.below.size; omega
 ·refine ⟨F, by obtain ⟨A, k, c, xs, hG⟩ := hT; exact hG.log.dev, fun i hi => hFP i (.inl hi), fun W' d' F' hD' ho hF => ⟨fun i => F' i ∨ i = g ∨ i = t, ⟨ho.under h.below fun i hi => (h.ge i (hFP i (.inl hi))).1, fun i hi => ?_, .inr ⟨T, t, g, F', h1, h2, hT.dev hD' ho hF, fun _ h => h⟩⟩, fun i hi => ?_, ho.mono fun i _ hi => hFP i (.inl hi)⟩⟩
  ·have hs := ho.size
   rcases hi with hi | hi
   ·refine ⟨?_, hD'.lt i hi⟩
    rcases hF i hi with h9 | h9
    ·exact (h.ge i (hFP i (.inl h9))).1
    ·have := h.below.size; omega
   ·have := h.ge i (hFP i (.inr hi)); omega
  ·rcases hi with hi | hi
   ·exact (hF i hi).imp (fun h => hFP i (.inl h)) id
   ·exact .inl (hFP i (.inr hi))
theorem HalfP.other (h : HalfP H w0 W b tv d o P) {H' K : Nat → Prop} {W' : World} (ho : Only K W W') (hK : ∀ i, K i → H i ∧ ¬ P i ∧ w0.heap.size ≤ i) (hH : ∀ i, i < W.heap.size → H' i → H i) : HalfP H' w0 W' b tv d o P := by
 refine ⟨ho.under h.below fun i hi => (hK i hi).2.2, fun i hi => ⟨(h.ge i hi).1, Nat.lt_of_lt_of_le (h.ge i hi).2 ho.size⟩, ?_⟩
 rcases h.st with ⟨h1, h2, F, hD, hFP⟩ | ⟨T, t, g, F, h1, h2, hT, hFP, hOk⟩
 ·exact .inl ⟨h1, h2, F, hD.keep ho fun i hi hk => (hK i hk).2.1 (hFP i hi), hFP⟩
 ·exact .inr ⟨T, t, g, F, h1, h2, hT.other ho (fun i hi => ⟨(hK i hi).1, fun hf => (hK i hi).2.1 (hFP i (.inl hf)), fun e => (hK i hi).2.1 (hFP i (.inr (.inl e))), fun e => (hK i hi).2.1 (hFP i (.inr (.inr e))), (hK i hi).2.2⟩) hH, hFP, hOk⟩
theorem HalfD.other (h : HalfD H w0 W b tv d o P) {H' K : Nat → Prop} {W' : World} (ho : Only K W W') (hK : ∀ i, K i → H i ∧ ¬ P i ∧ w0.heap.size ≤ i) (hH : ∀ i, i < W.heap.size → H' i → H i) : HalfD H' w0 W' b tv d o P := by
 refine ⟨ho.under h.below fun i hi => (hK i hi).2.2, fun i hi => ⟨(h.ge i hi).1, Nat.lt_of_lt_of_le (h.ge i hi).2 ho.size⟩, ?_⟩
 rcases h.st with ⟨h1, h2, F, hD, hFP⟩ | ⟨T, t, g, F, h1, h2, hT, hFP⟩
 ·exact .inl ⟨h1, h2, F, hD.keep ho fun i hi hk => (hK i hk).2.1 (hFP i hi), hFP⟩
 ·exact .inr ⟨T, t, g, F, h1, h2, hT.other ho (fun i hi => ⟨(hK i hi).1, fun hf => (hK i hi).2.1 (hFP i (.inl hf)), fun e => (hK i hi).2.1 (hFP i (.inr (.inl e))), fun e => (hK i hi).2.1 (hFP i (.inr (.inr e))), (hK i hi).2.2⟩) hH, hFP⟩
end
structure Duo (w0 W : World) (b q : Nat) (tv uv : Value) (d : Dev) (o : Option TableD) (P D : Nat → Prop) : Prop where
 p : HalfP D w0 W b tv d o P
 r : HalfD P w0 W q uv d o D
 apart : ∀ i, P i → ¬ D i
section
variable {w0 W W' : World} {b q : Nat} {tv uv tv' : Value} {d d' : Dev} {o o' : Option TableD} {P D P' : Nat → Prop}
theorem Duo.under (h : Duo w0 W b q tv uv d o P D) (hb : Below W.heap.size W W') : Duo w0 W' b q tv uv d o P D :=
 ⟨h.p.other (Only.of_below hb fun _ => False) (fun _ h => h.elim) (fun _ _ h => h), h.r.other (Only.of_below hb fun _ => False) (fun _ h => h.elim) (fun _ _ h => h), h.apart⟩
theorem Duo.below (h : Duo w0 W b q tv uv d o P D) : Below w0.heap.size w0 W := h.p.below
theorem Duo.step (h : Duo w0 W b q tv uv d o P D) (h1 : HalfP D w0 W' b tv' d' o' P') (hP : ∀ i, P' i → P i ∨ W.heap.size ≤ i) (o1 : Only P W W') :
  HalfD P' w0 W' q uv d o D ∧ (∀ i, P' i → ¬ D i) ∧ ∀ {W'' : World} {uv' : Value} {D' : Nat → Prop}, HalfD P' w0 W'' q uv' d' o' D' → (∀ i, D' i → D i ∨ W'.heap.size ≤ i) → Only D W' W'' → Duo w0 W'' b q tv' uv' d' o' P' D' := by
 have hap : ∀ i, P' i → ¬ D i := fun i hi hd => by
  rcases hP i hi with h9 | h9
  ·exact h.apart i h9 hd
  ·have := (h.r.ge i hd).2; omega
 refine ⟨h.r.other o1 (fun i hi => ⟨hi, h.apart i hi, (h.p.ge i hi).1⟩) (fun i hi hf => ?_), hap, fun {W'' uv' D'} h2 hD o2 => ⟨h1.other o2 (fun i hi => ⟨hi, fun hp => hap i hp hi, (h.r.ge i hi).1⟩) (fun i hi hf => ?_), h2, fun i hi hf => ?_⟩⟩
 ·rcases hP i hf with h9 | h9
  ·exact h9
  ·omega
 ·rcases hD i hf with h9 | h9
  ·exact h9
  ·omega
 ·rcases hD i hf with h9 | h9
  ·exact hap i hi h9
  ·have := (h1.ge i hi).2; omega
theorem TOpenPost.half {F : Nat → Prop} {r : Dev × Option TableD × Int} {e : Ending} (hp : TOpenPost D w0 W b F r e W') (hok : ∀ T, r.2.1 = some T → T.Ok) (hb : Below w0.heap.size w0 W) (hFP : ∀ i, F i → P i) (hge : ∀ i, P i → w0.heap.size ≤ i) :
  ∃ (tv' : Value) (P' : Nat → Prop), e = .returned (.tuple #[tv', .int .i64 r.2.2]) ∧ HalfP D w0 W' b tv' r.1 r.2.1 P' ∧ (∀ i, P' i → P i ∨ W.heap.size ≤ i) ∧ Only P W W' := by
 obtain ⟨F', hD, hF, ho, hcase⟩ := hp
 have hbw := ho.under hb fun i hi => hge i (hFP i hi)
 have hFw : ∀ i, F' i → w0.heap.size ≤ i := fun i hi => by
  rcases hF i hi with h9 | h9
  ·exact hge i (hFP i h9)
  ·have := hb.size; omega
 rcases hcase with ⟨h1, rfl⟩ | ⟨T, t, g, h1, rfl, ht, hg, hT⟩
 ·exact ⟨.pointer none, F', rfl, ⟨hbw, fun i hi => ⟨hFw i hi, hD.lt i hi⟩, .inl ⟨h1, rfl, F', hD, fun _ h => h⟩⟩, fun i hi => (hF i hi).imp (hFP i) id, ho.mono fun i _ hi => hFP i hi⟩
 ·refine ⟨_, fun i => F' i ∨ i = g ∨ i = t, rfl, ⟨hbw, fun i hi => ?_, .inr ⟨T, t, g, F', h1, rfl, hT, fun _ h => h, hok T h1⟩⟩, fun i hi => ?_, ho.mono fun i _ hi => hFP i hi⟩
  ·obtain ⟨A, k, c, xs, hG⟩ := hT
   rcases hi with hi | rfl | rfl
   ·exact ⟨hFw i hi, hD.lt i hi⟩
   ·exact ⟨hG.log.g0, hG.log.gl⟩
   ·exact ⟨hG.t0, hG.blk.lt⟩
  ·rcases hi with hi | rfl | rfl
   ·exact (hF i hi).imp (hFP i) id
   ·exact .inr hg
   ·exact .inr ht
theorem RTOpenPost.half {F : Nat → Prop} {r : Dev × Option TableD × Int} {e : Ending} (hp : RTOpenPost D w0 W b F r e W') (hb : Below w0.heap.size w0 W) (hFP : ∀ i, F i → P i) (hge : ∀ i, P i → w0.heap.size ≤ i) :
  ∃ (tv' : Value) (P' : Nat → Prop), e = .returned (.tuple #[tv', .int .i64 r.2.2]) ∧ HalfD D w0 W' b tv' r.1 r.2.1 P' ∧ (∀ i, P' i → P i ∨ W.heap.size ≤ i) ∧ Only P W W' := by
 obtain ⟨F', hD, hF, ho, hcase⟩ := hp
 have hbw := ho.under hb fun i hi => hge i (hFP i hi)
 have hFw : ∀ i, F' i → w0.heap.size ≤ i := fun i hi => by
  rcases hF i hi with h9 | h9
  ·exact hge i (hFP i h9)
  ·have := hb.size; omega
 rcases hcase with ⟨h1, rfl⟩ | ⟨T, t, g, h1, rfl, ht, hg, hT⟩
 ·exact ⟨.pointer none, F', rfl, ⟨hbw, fun i hi => ⟨hFw i hi, hD.lt i hi⟩, .inl ⟨h1, rfl, F', hD, fun _ h => h⟩⟩, fun i hi => (hF i hi).imp (hFP i) id, ho.mono fun i _ hi => hFP i hi⟩
 ·refine ⟨_, fun i => F' i ∨ i = g ∨ i = t, rfl, ⟨hbw, fun i hi => ?_, .inr ⟨T, t, g, F', h1, rfl, hT, fun _ h => h⟩⟩, fun i hi => ?_, ho.mono fun i _ hi => hFP i hi⟩
  ·obtain ⟨A, k, c, xs, hG⟩ := hT
   rcases hi with hi | rfl | rfl
   ·exact ⟨hFw i hi, hD.lt i hi⟩
   ·exact ⟨hG.log.g0, hG.log.gl⟩
   ·exact ⟨hG.t0, hG.blk.lt⟩
  ·rcases hi with hi | rfl | rfl
   ·exact (hF i hi).imp (hFP i) id
   ·exact .inr hg
   ·exact .inr ht
theorem TabPost.half {t g : Nat} {F : Nat → Prop} {r : Dev × TableD × Int} {e : Ending} (hp : TabPost D w0 W t g b F r e W') (hok : r.2.1.Ok) (hb : Below w0.heap.size w0 W) (hFP : ∀ i, F i ∨ i = g ∨ i = t → P i) (hge : ∀ i, P i → w0.heap.size ≤ i) :
  e = .returned (.int .i64 r.2.2) ∧ ∃ P', HalfP D w0 W' b (.pointer (some ⟨t, 0, none⟩)) r.1 (some r.2.1) P' ∧ (∀ i, P' i → P i ∨ W.heap.size ≤ i) ∧ Only P W W' := by
 obtain ⟨he, F', hT, hF, ho⟩ := hp
 refine ⟨he, fun i => F' i ∨ i = g ∨ i = t, ⟨ho.under hb fun i hi => hge i (hFP i hi), fun i hi => ?_, .inr ⟨_, t, g, F', rfl, rfl, hT, fun _ h => h, hok⟩⟩, fun i hi => ?_, ho.mono fun i _ hi => hFP i hi⟩
 ·obtain ⟨A, k, c, xs, hG⟩ := hT
  rcases hi with hi | rfl | rfl
  ·exact ⟨hG.log.fresh i hi, hG.log.dev.lt i hi⟩
  ·exact ⟨hG.log.g0, hG.log.gl⟩
  ·exact ⟨hG.t0, hG.blk.lt⟩
 ·rcases hi with hi | hi
  ·exact (hF i hi).imp (fun h => hFP i (.inl h)) id
  ·exact .inl (hFP i (.inr hi))
theorem RTabPost.half {t g : Nat} {F : Nat → Prop} {r : Dev × TableD × Int} {e : Ending} (hp : RTabPost D w0 W t g b F r e W') (hb : Below w0.heap.size w0 W) (hFP : ∀ i, F i ∨ i = g ∨ i = t → P i) (hge : ∀ i, P i → w0.heap.size ≤ i) :
  e = .returned (.int .i64 r.2.2) ∧ ∃ P', HalfD D w0 W' b (.pointer (some ⟨t, 0, none⟩)) r.1 (some r.2.1) P' ∧ (∀ i, P' i → P i ∨ W.heap.size ≤ i) ∧ Only P W W' := by
 obtain ⟨he, F', hT, hF, ho⟩ := hp
 refine ⟨he, fun i => F' i ∨ i = g ∨ i = t, ⟨ho.under hb fun i hi => hge i (hFP i hi), fun i hi => ?_, .inr ⟨_, t, g, F', rfl, rfl, hT, fun _ h => h⟩⟩, fun i hi => ?_, ho.mono fun i _ hi => hFP i hi⟩
 ·obtain ⟨A, k, c, xs, hG⟩ := hT
  rcases hi with hi | rfl | rfl
  ·exact ⟨hG.log.fresh i hi, hG.log.dev.lt i hi⟩
  ·exact ⟨hG.log.g0, hG.log.gl⟩
  ·exact ⟨hG.t0, hG.blk.lt⟩
 ·rcases hi with hi | hi
  ·exact (hF i hi).imp (fun h => hFP i (.inl h)) id
  ·exact .inl (hFP i (.inr hi))
end
structure TActV where
 kind : Int
 num : Int
 bA : Option Addr
 bN : Nat
 bC : Nat
 xs : List PairV
 kA : Option Addr
 kN : Nat
 kC : Nat
 bs : List Int
def TActV.cells (a : TActV) : List Value := [.int .i64 a.kind, .int .i64 a.num, .slice a.bA a.bN a.bC, .slice a.kA a.kN a.kC]
structure TActV.Fine (w : World) (a : TActV) : Prop where
 num : -9223372036854775808 ≤ a.num ∧ a.num ≤ 9223372036854775807
 batch : PairsIn w a.bA a.bN a.xs
 bcap : a.bN ≤ a.bC
 kept : Bys w a.kA a.kN a.bs
 kcap : a.kN ≤ a.kC
theorem TActV.Fine.below {w w' : World} {a : TActV} (h : a.Fine w) (hb : Below w.heap.size w w') : a.Fine w' := ⟨h.num, h.batch.below' hb, h.bcap, h.kept.below hb, h.kcap⟩
theorem TActV.one (a : TActV) : ∀ v ∈ a.cells, v.oneCell' = true := by
 intro v hv
 simp only [TActV.cells, List.mem_cons, List.mem_nil_iff, or_false] at hv
 rcases hv with rfl | rfl | rfl | rfl <;> rfl
abbrev TActsIn (w : World) (A : Option Addr) (n : Nat) (xs : List TActV) : Prop := RowsIn TActV.cells 4 TActV.Fine w A n xs
def zeroTA : List Value := [.int .i64 0, .int .i64 0, .slice none 0 0, .slice none 0 0]
theorem zeroTA_info : (Tryz.prog.info? 39).map (·.zero) = some (some (.agg zeroTA.toArray)) := by kernel_rfl
theorem isTA : (Tryz.prog.info? 39).map (·.size) = some 4 := by kernel_rfl
def loadTA (a : Addr) : Sem Value := loadVar 39 a
theorem loadTA_fold (a : Addr) : loadVar 39 a = loadTA a := rfl
theorem loadTA_run (w : World) (b o : Nat) (a : TActV) (h : w.rangeAt b o a.cells) : (loadTA ⟨b, o, none⟩).run Tryz.prog w = .ok (.agg a.cells.toArray) w :=
 run_loadVar_mid w b o _ a.cells _ h Tryz.underlying39 rfl (by rw [isTA]; rfl)
theorem PairsIn.stays {w0 W : World} {A : Option Addr} {n : Nat} {xs : List PairV} (h : PairsIn w0 A n xs) (hb : Below w0.heap.size w0 W) {G : Nat → Prop} (hG : ∀ i, G i → w0.heap.size ≤ i) : PKeep W G A n xs := fun _ ho =>
 h.below' (ho.under hb hG)
end Go.Proofs.YtjnpkcabkccaoaaGreat
