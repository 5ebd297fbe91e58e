/- Lemmas and walks for TableRuns, packed. -/
import Derived.Test.YtjnpkcabkccaoaaGreatQ48
import Derived.Test.YtjnpkcabkccaoaaGreatQ10
import Derived.Test.YtjnpkcabkccaoaaGreatQ33
import Derived.Deep.CutBlock
set_option maxRecDepth 100000
set_option maxHeartbeats 16000000
namespace Go.Proofs.YtjnpkcabkccaoaaGreat
open Go.RowKit
section
structure Now (w0 W : World) (b q : Nat) (tv uv : Value) (g5 : Nat) (a : TActV) (d : Dev) (o : Option TableD) (P D : Nat → Prop) (K : Nat) : Prop where
 duo : Duo w0 W b q tv uv d o P D
 blk : Blk W g5 39 a.cells
 np : ¬ P g5
 nd : ¬ D g5
 bytes : d.Bytes
 ok : d.Ok
 few : d.written.length ≤ K
theorem Now.under {w0 W W' : World} {b q : Nat} {tv uv : Value} {g5 : Nat} {a : TActV} {d : Dev} {o : Option TableD} {P D : Nat → Prop} {K : Nat} (h : Now w0 W b q tv uv g5 a d o P D K) (hb : Below W.heap.size W W') : Now w0 W' b q tv uv g5 a d o P D K :=
 ⟨h.duo.under hb, h.blk.under hb, h.np, h.nd, h.bytes, h.ok, h.few⟩
theorem Now.two {w0 W W' W'' : World} {b q : Nat} {tv uv tv' uv' : Value} {g5 : Nat} {a : TActV} {d d' : Dev} {o o' : Option TableD} {P D P' D' : Nat → Prop} {K K' : Nat} (h : Now w0 W b q tv uv g5 a d o P D K)
  (h1 : HalfP D w0 W' b tv' d' o' P') (hP : ∀ i, P' i → P i ∨ W.heap.size ≤ i) (o1 : Only P W W') (h2 : HalfD P' w0 W'' q uv' d' o' D') (hD : ∀ i, D' i → D i ∨ W'.heap.size ≤ i) (o2 : Only D W' W'') (hb : d'.Bytes) (ho : d'.Ok) (hf : d'.written.length ≤ K') :
  Now w0 W'' b q tv' uv' g5 a d' o' P' D' K' := by
 have hlt := h.blk.lt
 have hs := o1.size
 refine ⟨(h.duo.step h1 hP o1).2.2 h2 hD o2, o2.blk (o1.blk h.blk h.np) h.nd, fun hp => ?_, fun hp => ?_, hb, ho, hf⟩
 ·rcases hP _ hp with h9 | h9
  ·exact h.np h9
  ·omega
 ·rcases hD _ hp with h9 | h9
  ·exact h.nd h9
  ·omega
theorem Now.more {w0 W : World} {b q : Nat} {tv uv : Value} {g5 : Nat} {a : TActV} {d : Dev} {o : Option TableD} {P D : Nat → Prop} {K K' : Nat} (h : Now w0 W b q tv uv g5 a d o P D K) (hK : K ≤ K') : Now w0 W b q tv uv g5 a d o P D K' :=
 ⟨h.duo, h.blk, h.np, h.nd, h.bytes, h.ok, Nat.le_trans h.few hK⟩
theorem TabW.byts {H : Nat → Prop} {w0 W : World} {t g b : Nat} {F : Nat → Prop} {d : Dev} {T : TableD} (h : TabW H w0 W t g b F d T) : Byts T.pairs := by
 obtain ⟨A, k, c, xs, hG⟩ := h
 rw [← hG.data]
 exact pairs_byts hG.keep.in_
theorem apart_old {w0 w : World} {A : Option Addr} {n : Nat} {bs : List Int} (h : Bys w A n bs) (hw : w.heap.size ≤ w0.heap.size) {F : Nat → Prop} (hF : ∀ i, F i → w0.heap.size ≤ i) : Apart A n F := fun h0 ad e hf => by
 have h1 := h.lt h0 ad e
 have h2 := hF _ hf
 omega
theorem Duo.good {w0 W : World} {b q : Nat} {tv uv : Value} {d : Dev} {o : Option TableD} {P D : Nat → Prop} (h : Duo w0 W b q tv uv d o P D) : d.Good := by
 obtain ⟨F, hd, _⟩ := h.p.dev
 exact hd.good
theorem good_room {d : Dev} (h : d.Good) : d.room ≤ 2048 := by have := h.few; unfold Dev.room; omega
theorem same_self9 (l : List PairD) : sameP l l = true := decide_eq_true rfl
theorem toldT_few {d : Dev} (hg : d.Good) : (toldT d).1.length ≤ 245760 := by
 obtain ⟨h1, _, h3⟩ := toldT_some d hg
 have := right_len h1
 omega
theorem ask_eq {l : List PairD} (h : Sorted l) (pre from_ : List Int) (most : Int) : rangeP l pre from_ most = asked l pre from_ most := range_eq h pre from_ most
theorem ask1 (l : List PairD) (key : List Int) : asked l key key 1 = (l.filter (inRange key key)).take 1 := rfl
theorem asked_len (l : List PairD) (pre from_ : List Int) (most : Int) : (asked l pre from_ most).length ≤ l.length := by
 unfold asked
 have h1 := List.length_filter_le (inRange pre from_) l
 rw [List.length_take]
 omega
theorem kinds (k : Int) : k = 0 ∨ k = 1 ∨ k = 2 ∨ k = 3 ∨ (k ≠ 0 ∧ k ≠ 1 ∧ k ≠ 2 ∧ k ≠ 3) := by omega
attribute [local go_sem ↓] loadTA_fold loadPr_fold
theorem truns_any (w : World) (n : Int) (hn : n ≤ 9223372036854775807) (A : Option Addr) (na ca : Nat) (acts : List TActV) (hA : TActsIn w A na acts)
  (P0 Q0 : Option Addr) (n0 c0 m0 d0 : Nat) (pre key : List Int) (hp0 : Bys w P0 n0 pre) (hc0 : n0 ≤ c0) (hq0 : Bys w Q0 m0 key) (hd0 : m0 ≤ d0) :
  Calls Tryz.prog 3 #[.int .i64 n, .slice A na ca, .agg #[.slice P0 n0 c0, .slice Q0 m0 d0]] w fun e w' => e = .returned (.bool true) ∧ Below w.heap.size w w' := by
 have HA := hide hA
 have HN := hide hn
 have HP0 := hide hp0
 have HQ0 := hide hq0
 have HCC := hide (And.intro hc0 hd0)
 obtain ⟨w1, hw1⟩ : ∃ z, z = w.alloc (.cells #[.slice P0 n0 c0, .slice Q0 m0 d0] 24) := ⟨_, rfl⟩
 obtain ⟨k5, hk5⟩ : ∃ z, z = w.heap.size := ⟨_, rfl⟩
 have B1 := hide (show Below w.heap.size w w1 by rw [hw1]; exact below_alloc (Below.refl _ _) _)
 have K1 := hide (show Blk w1 k5 24 [.slice P0 n0 c0, .slice Q0 m0 d0] by rw [hw1, hk5]; exact Blk.new w _ _)
 clear hA hn hp0 hc0 hq0 hd0
 go_enter Tryz.func3, Tryz.ntmps3
 go_wp2_with fail
 rw [← hw1, ← hk5]
 clear hw1 hk5
 refine (talive_any w1).mono ?_
 rintro e w2 ⟨rfl, b2⟩
 have B2 := hide (Below.then_ B1.out b2)
 have K2 := hide (K1.out.under b2)
 have a0 := K2.out.c0
 have a1 := K2.out.c1
 clear b2
 obtain ⟨B, hB⟩ : ∃ B : Bool, B = decide (60 < n ∨ 40 < na ∨ 100 < n0 ∨ 100 < m0) := ⟨_, rfl⟩
 have HB := hide hB
 go_upto_region 3 with fail
 go_cut [43] (fun t w' => w' = w2 ∧ t = .bool B)
 case first =>
  as_aux_lemma =>
   by_cases h1 : 60 < n
   ·have e : B = true := by rw [hB]; exact decide_eq_true (.inl h1)
    clear hB
    go_wp2_with fail
    go_meet
    case rel => exact ⟨rfl, by rw [e]⟩
   ·have i1 : ¬ 60 < n := h1
    by_cases h2 : 40 < na
    ·have i2 : (40 : Int) < (na : Int) := by omega
     have e : B = true := by rw [hB]; exact decide_eq_true (by omega)
     clear hB
     go_wp2_with fail
     go_meet
     case rel => exact ⟨rfl, by rw [e]⟩
    ·have i2 : ¬ (40 : Int) < (na : Int) := by omega
     by_cases h3 : 100 < n0
     ·have i3 : (100 : Int) < (n0 : Int) := by omega
      have e : B = true := by rw [hB]; exact decide_eq_true (by omega)
      clear hB
      go_wp2_with fail
      go_meet
      case rel => exact ⟨rfl, by rw [e]⟩
     ·have i3 : ¬ (100 : Int) < (n0 : Int) := by omega
      by_cases h4 : 100 < m0
      ·have i4 : (100 : Int) < (m0 : Int) := by omega
       have e : B = true := by rw [hB]; exact decide_eq_true (by omega)
       clear hB
       go_wp2_with fail
       go_meet
       case rel => exact ⟨rfl, by rw [e]⟩
      ·have i4 : ¬ (100 : Int) < (m0 : Int) := by omega
       have e : B = false := by rw [hB]; exact decide_eq_false (by omega)
       clear hB
       go_wp2_with fail
       go_meet
       case rel => exact ⟨rfl, by rw [e]⟩
 case rest =>
 obtain ⟨hwc, rfl⟩ := hcut
 rw [hwc]
 clear hwc hB wc a0 a1
 cases hC : B with
 | true =>
  clear hC
  go_wp2_with fail
  go_ret
  exact ⟨rfl, B2.out⟩
 | false =>
 have HSM := hide (of_decide_eq_false (HB.out.symm.trans hC))
 have na9 : (na : Int) ≤ 40 := by have := HSM.out; omega
 have na0 : (0 : Int) ≤ (na : Int) := by omega
 clear hC
 go_wp2_with fail
 refine (new_any w2 n).mono ?_
 rintro e w3 hp
 obtain ⟨b, F3, rfl, s3⟩ := DevSt.fresh hp
 have S3 := hide s3
 clear hp s3
 go_wp2_with fail
 refine (docnew_any w3 n).mono ?_
 rintro e w4 ⟨q, G4, rfl, r4, b4, g4⟩
 have T4 := hide (show Duo w2 w4 b q (.pointer none) (.pointer none) (newDev n) none F3 G4 from ⟨⟨(S3.out.under b4).below, fun i hi => ⟨S3.out.ge i hi, Nat.lt_of_lt_of_le (S3.out.lt i hi) b4.size⟩, .inl ⟨rfl, rfl, F3, (S3.out.under b4).rep, fun _ h => h⟩⟩,
  ⟨(S3.out.under b4).below, fun i hi => ⟨by have := g4 i hi; have := S3.out.below.size; omega, r4.lt i hi⟩, .inl ⟨rfl, rfl, G4, r4, fun _ h => h⟩⟩, fun i hi hg => by have := S3.out.lt i hi; have := g4 i hg; omega⟩)
 have D4 := hide (S3.out.under b4).rep
 have HGE := hide (fun i (hi : F3 i) => S3.out.ge i hi)
 have W4 := hide (show (newDev n).written.length ≤ 0 by simp [newDev])
 clear r4 b4 g4
 go_wp2_with fail
 refine (TOpen_any G4 w2 w4 b F3 (newDev n) D4.out (new_bytes n) (by have := W4.out; omega) T4.out.below HGE.out (fun i hi => (T4.out.r.ge i hi).2)).mono ?_
 rintro e w5 hp
 obtain ⟨tv5, P5, rfl, h5, hP5, o5⟩ := hp.half (fun T h => (openT_some T4.out.good h).1) T4.out.below (fun _ h => h) HGE.out
 have ST5 := hide (T4.out.step h5 hP5 o5)
 have HP5 := hide (fun i (hi : P5 i) => (h5.ge i hi).2)
 clear hp h5 hP5 o5
 go_wp2_with fail
 obtain ⟨G5, hG5, hGD5, hnx5⟩ := ST5.out.1.dev
 refine (rTOpen_any P5 w2 w5 q G5 (newDev n) hG5 ⟨newDev_ok n, by have := W4.out; omega, new_bytes n⟩ (by have := W4.out; omega) ST5.out.1.below (fun i hi => (ST5.out.1.ge i (hGD5 i hi)).1) HP5.out).mono ?_
 rintro e w6 ⟨hp, hbt⟩
 obtain ⟨uv6, D6, rfl, h6, hD6, o6⟩ := hp.half ST5.out.1.below hGD5 (fun i hi => (ST5.out.1.ge i hi).1)
 have T6 := hide (ST5.out.2.2 h6 hD6 o6)
 have GR6 := hide (openT_grew (newDev n) hbt)
 have OK6 := hide (openT_okd (newDev_ok n))
 have BY6 := hide (GR6.out.bytes (new_bytes n))
 obtain ⟨dd6, oo6, ee6, he6⟩ : ∃ a b c, openT (newDev n) = (a, b, c) := ⟨_, _, _, rfl⟩
 rw [he6] at T6 GR6 OK6 BY6 ⊢
 simp only at T6 GR6 OK6 BY6 ⊢
 clear hp hbt h6 hD6 o6 hG5 hGD5 hnx5 he6
 go_wp2_with fail
 go_loopw [9, 11, 63] (fun tv uv iv ws => ∃ (j : Nat) (d : Dev) (o : Option TableD) (P D : Nat → Prop), j ≤ na ∧ iv = .int .i64 (j : Int) ∧ Duo w2 ws b q tv uv d o P D ∧ d.Bytes ∧ d.Ok ∧ d.written.length ≤ 1700 + 4300 * j) (fun _ _ iv _ => na - (intOf iv).toNat)
 case atStart => exact ⟨0, dd6, oo6, P5, D6, Nat.zero_le _, rfl, T6.out, BY6.out, OK6.out, by have := GR6.out.many; have := W4.out; omega⟩
 case round =>
 clear T6 GR6 OK6 BY6 ST5 T4 D4 HGE S3 W4
 obtain ⟨j, d, o, P, D, hj, rfl, hduo, hby, hok, hfew⟩ := hrel
 by_cases hlt : j < na
 ·obtain ⟨ab, ao, haA, hrow⟩ := HA.out.2.2 (by omega)
  subst haA
  obtain ⟨a, ha⟩ : ∃ a, acts[j]? = some a := ⟨_, List.getElem?_eq_getElem (by rw [HA.out.1]; exact hlt)⟩
  have BW := hide (Below.then_ B2.out hduo.below)
  have hld := loadTA_run wr ab (ao + j * 4) a (range_under (hrow j a ha) BW.out)
  have HAF := hide (HA.out.2.1 a (List.mem_of_getElem? ha))
  have DU := hide hduo
  have HDD := hide (And.intro hby (And.intro hok hfew))
  have HJ := hide hlt
  have j0 : (0 : Int) ≤ (j : Int) := by omega
  have j1 : (j : Int) < (na : Int) := by omega
  have j9 : (j : Int) ≤ 40 := by omega
  have tokA : True := trivial
  have tokB : True := trivial
  obtain ⟨g5, hg5⟩ : ∃ z, z = wr.heap.size := ⟨_, rfl⟩
  have HG5 := hide hg5
  have KZ := hide (show Blk (wr.alloc (.cells zeroTA.toArray 39)) g5 39 zeroTA by rw [hg5]; exact Blk.new wr _ _)
  clear hduo hby hok hfew ha hrow hlt hj hg5
  go_wp2_with (first
   | (have _t := tokA; clear _t tokA; refine wpList_alloc_agg rfl 39 rfl zeroTA zeroTA_info ?_; rw [← HG5.out]; simp only [pU])
   | (have _t := tokB; clear _t tokB; refine wpList_store_blk rfl 39 _ _ rfl g5 0 39 zeroTA a.cells (by rfl) (by rfl) KZ.out (Nat.le_refl _) (by rw [isTA]; rfl) (TActV.one a) ?_; intro w7 o7 z7 b7; rw [lay_all zeroTA a.cells rfl] at b7; have N7 := hide (show Now w2 w7 b q u9 u11 g5 a d o P D (1700 + 4300 * j) from ⟨DU.out.under ((below_alloc (Below.refl _ wr) _).trans (o7.below (by simp) (fun i hi e => by have h9 : i = g5 := e; have := HG5.out; omega))), b7, fun hp => by have h8 := (DU.out.p.ge _ hp).2; have := HG5.out; omega, fun hp => by have h8 := (DU.out.r.ge _ hp).2; have := HG5.out; omega, HDD.out.1, HDD.out.2.1, HDD.out.2.2⟩); have k2 := b7.c2; clear o7 z7 b7 hld; simp only [Act.put]))
  have HB27 := hide (Below.then_ B2.out N7.out.duo.below)
  refine (great_any w7 a.bA a.bN a.bC a.xs (HAF.out.below HB27.out).batch).mono ?_
  rintro e w8 ⟨rfl, b8⟩
  have N8 := hide (N7.out.under b8)
  have HB28 := hide (Below.then_ B2.out N8.out.duo.below)
  have SZ := hide (show w2.heap.size ≤ g5 by have h1 := HG5.out; have h2 := DU.out.below.size; omega)
  clear b8 N7 KZ k2 HB27
  cases hgr : greatP (a.xs.map PairV.d) with
  | true =>
   clear hgr
   as_aux_lemma =>
    go_wp2_with fail
    go_ret
    exact ⟨rfl, HB28.out⟩
  | false =>
  have HGR := hide (great_small hgr)
  have HBN := hide (show a.bN ≤ 40 by have h1 := HGR.out.1; have h2 := HAF.out.batch.1; rw [List.length_map] at h1; omega)
  have k3 := N8.out.blk.c3
  clear hgr
  by_cases hkp : 100 < a.kN
  ·have i1 : (100 : Int) < (a.kN : Int) := by omega
   clear hkp
   as_aux_lemma =>
    go_wp2_with fail
    go_ret
    exact ⟨rfl, HB28.out⟩
  have i1 : ¬ (100 : Int) < (a.kN : Int) := by omega
  have HKP := hide (show a.kN ≤ 100 by omega)
  have k0 := N8.out.blk.c0
  clear hkp
  go_upto_block 2 with fail
  clear k3 i1
  go_cut [] (fun w' => ∃ d' o' P' D', Now w2 w' b q u9 u11 g5 a d' o' P' D' (4300 + 4300 * j))
  case first =>
   rcases kinds a.kind with hk | hk | hk | hk | ⟨hk0, hk1, hk2, hk3⟩
   ·have q0 : (a.kind == 0) = true := by simpa using hk
    have q2 : (a.kind == 2) = false := by rw [hk]; rfl
    have q3 : (a.kind == 3) = false := by rw [hk]; rfl
    clear hk
    rcases N8.out.duo.p.st with ⟨ho, htv, _⟩ | ⟨T, t, g, F, ho, htv, hT, hFP, hOk⟩
    ·subst htv
     as_aux_lemma =>
      go_wp2_with fail
      refine wp_region_held_drew (S := fun w' => Blk w' g5 39 a.cells) (by kernel_rfl) (N8.out.blk.under (Below.refl _ w8).drew) (fun hSN0 => ?_)
      obtain ⟨w8d, hwN⟩ : ∃ x, x = w8.drew := ⟨_, rfl⟩
      first | rw [← hwN] at hSN0 ⊢ | rw [← hwN]
      have BD := hide (show Below w8.heap.size w8 w8d by rw [hwN]; exact (Below.refl _ w8).drew)
      clear hwN
      refine tq 0 rfl hSN0 ?_
      refine tq 1 rfl hSN0 ?_
      refine tq 2 rfl hSN0 ?_
      refine tm 3 rfl hSN0 ?_
      refine tm 4 rfl hSN0 ?_
      refine tm 5 rfl hSN0 ?_
      refine tm 6 rfl hSN0 ?_
      refine tm 7 rfl hSN0 ?_
      refine tm 8 rfl hSN0 ?_
      refine tm 9 rfl hSN0 ?_
      refine tm 10 rfl hSN0 ?_
      refine tm 11 rfl hSN0 ?_
      refine tq 12 rfl hSN0 ?_
      refine wpAnyH_done (by kernel_rfl) ?_ _
      go_wp2_with fail
      go_meet
      case rel => exact ⟨d, o, P, D, (N8.out.under BD.out).more (by omega)⟩
    ·rcases N8.out.duo.r.st with ⟨ho2, _⟩ | ⟨T2, u, g2, G, ho2, huv, _⟩
     ·rw [ho] at ho2; cases ho2
     ·subst htv; subst huv; subst ho
      have HT := hide hT
      have HFP := hide hFP
      have HOK := hide hOk
      clear hT hFP hOk ho2
      as_aux_lemma =>
       go_wp2_with fail
       refine wp_region_held_drew (S := fun w' => Blk w' g5 39 a.cells) (by kernel_rfl) (N8.out.blk.under (Below.refl _ w8).drew) (fun hSA0 => ?_)
       obtain ⟨w8d, hwA⟩ : ∃ x, x = w8.drew := ⟨_, rfl⟩
       first | rw [← hwA] at hSA0 ⊢ | rw [← hwA]
       have BD := hide (show Below w8.heap.size w8 w8d by rw [hwA]; exact (Below.refl _ w8).drew)
       have ND := hide (N8.out.under BD.out)
       clear hwA
       refine tq 0 rfl hSA0 ?_
       refine tq 1 rfl hSA0 ?_
       refine tq 2 rfl hSA0 ?_
       refine tq 3 rfl hSA0 ?_
       refine tq 4 rfl hSA0 ?_
       (refine tq 5 rfl hSA0 ?_ (fun w' hSw => by have z5 := hSw.c2; go_simp; try with_reducible rfl))
       refine tq 7 rfl hSA0 ?_
       refine tq 8 rfl hSA0 ?_
       (refine tq 9 rfl hSA0 ?_ (fun w' hSw => by have z9 := hSw.c2; go_simp; try with_reducible rfl))
       refine ry 6 rfl fun K hK => ?_
       go_simp
       refine (Apply_any D w2 w8d t g b F d T a.bA a.bN a.bC a.xs (HT.out.under BD.out) HOK.out HDD.out.1 (by have := HDD.out.2.2; omega) (HAF.out.below (Below.then_ HB28.out BD.out)).batch HAF.out.bcap (by have := HBN.out; omega) (by have := HGR.out.2; omega) (fun i hi => (ND.out.duo.r.ge i hi).2)).mono ?_
       rintro e wA hp
       obtain ⟨he, P', h1, hP1, o1⟩ := hp.half (applyT_ok HOK.out (good_room ND.out.duo.good) (pairs_byts HAF.out.batch)) ND.out.duo.below HFP.out (fun i hi => (ND.out.duo.p.ge i hi).1)
       subst he
       have ST := hide (ND.out.duo.step h1 hP1 o1)
       have H1 := hide (And.intro h1 (And.intro hP1 o1))
       have hbA := o1.blk ND.out.blk ND.out.np
       clear hp h1 hP1 o1
       go_simp
       refine hK.out _ _ (hbA) (fun hSA1 => ?_)
       clear hK K
       refine ry 10 rfl fun K hK => ?_
       go_simp
       rcases ST.out.1.st with ⟨ho2, _⟩ | ⟨T2, u2, g3, G2, ho2, huv, hR, hGD⟩
       ·cases ho2
       ·obtain rfl : T = T2 := by injection ho2
        injection huv with huv
        injection huv with huv
        injection huv with huv
        subst huv
        refine (rApply_any P' w2 wA u g3 q G2 d T a.bA a.bN a.bC a.xs hR HOK.out HDD.out.1 HDD.out.2.1 (by have := HDD.out.2.2; omega) (PairsIn.stays (HAF.out.below B2.out).batch ST.out.1.below (fun i hi => ?_)) (by have := HBN.out; omega) (by have := HGR.out.2; omega) (fun i hi => (H1.out.1.ge i hi).2)).mono ?_
        ·rcases hi with hi | hi | hi | hi
         ·exact (ST.out.1.ge i (hGD i (.inl hi))).1
         ·exact (ST.out.1.ge i (hGD i (.inr (.inl hi)))).1
         ·exact (ST.out.1.ge i (hGD i (.inr (.inr hi)))).1
         ·exact (H1.out.1.ge i hi).1
        rintro e wB hp
        obtain ⟨he, D', h2, hD2, o2⟩ := hp.half ST.out.1.below hGD (fun i hi => (ST.out.1.ge i hi).1)
        subst he
        have GR := hide (applyT_grew d T (a.xs.map PairV.d) HT.out.byts (pairs_byts HAF.out.batch))
        have NB := hide (ND.out.two (K' := 4300 + 4300 * j) H1.out.1 H1.out.2.1 H1.out.2.2 h2 hD2 o2 (GR.out.bytes HDD.out.1) (applyT_okd HDD.out.2.1 _ _) (by have := GR.out.many; have := HDD.out.2.2; omega))
        clear hp h2 hD2 o2 hR hGD ho2
        go_simp
        refine hK.out _ _ (NB.out.blk) (fun hSA2 => ?_)
        clear hK K
        refine tq 11 rfl hSA2 ?_
        refine tq 12 rfl hSA2 ?_
        refine wpAnyH_done (by kernel_rfl) ?_ _
        obtain ⟨ee, hee⟩ : ∃ z, z = (applyT d T (a.xs.map PairV.d)).2.2 := ⟨_, rfl⟩
        go_wp2_with fail
        go_meet
        case rel => exact ⟨_, _, _, _, NB.out⟩
   ·have q0 : (a.kind == 0) = false := by rw [hk]; rfl
    have q2 : (a.kind == 2) = false := by rw [hk]; rfl
    have q3 : (a.kind == 3) = false := by rw [hk]; rfl
    clear hk
    as_aux_lemma =>
     go_wp2_with fail
     go_meet
     case rel => exact ⟨d, o, P, D, N8.out.more (by omega)⟩
   ·have q2 : (a.kind == 2) = true := by simpa using hk
    have q0 : (a.kind == 0) = false := by rw [hk]; rfl
    have q3 : (a.kind == 3) = false := by rw [hk]; rfl
    clear hk
    obtain ⟨F, hD, hFP, hnx⟩ := N8.out.duo.p.dev
    have k1 := N8.out.blk.c1
    have HD := hide hD
    have HNX := hide hnx
    clear hD hnx hFP
    as_aux_lemma =>
     go_wp2_with fail
     refine (budget_any w8 b F d a.num HD.out HAF.out.num.2).mono ?_
     rintro e w9 ⟨rfl, hD9, ho9⟩
     obtain ⟨P9, h9, hP9, o9⟩ := HNX.out w9 _ F hD9 ho9 (fun _ h => .inl h)
     have ST := hide (N8.out.duo.step h9 hP9 o9)
     have H9 := hide (And.intro h9 (And.intro hP9 o9))
     obtain ⟨G, hG, hGD, hny⟩ := ST.out.1.dev
     have HR := hide hG
     have HNY := hide hny
     have k1 := (o9.blk N8.out.blk N8.out.np).c1
     clear hD9 ho9 h9 hP9 o9 hG hGD hny HD HNX
     go_wp2_with fail
     refine (limit_any w9 q G d a.num HR.out HAF.out.num.2).mono ?_
     rintro e w10 ⟨rfl, hD10, ho10⟩
     obtain ⟨D10, h10, hD10', o10⟩ := HNY.out w10 _ G hD10 ho10 (fun _ h => .inl h)
     have N10 := hide (N8.out.two (K' := 4300 + 4300 * j) H9.out.1 H9.out.2.1 H9.out.2.2 h10 hD10' o10 (HDD.out.1.limit _) (HDD.out.2.1.limit _) (by have := (limit_grew d a.num).many; have := HDD.out.2.2; omega))
     clear hD10 ho10 h10 hD10' o10 k1 HR HNY
     go_wp2_with fail
     go_meet
     case rel => exact ⟨_, _, _, _, N10.out⟩
   ·have q3 : (a.kind == 3) = true := by simpa using hk
    have q0 : (a.kind == 0) = false := by rw [hk]; rfl
    have q2 : (a.kind == 2) = false := by rw [hk]; rfl
    clear hk
    obtain ⟨F, hD, hFP, hnx⟩ := N8.out.duo.p.dev
    have k3 := N8.out.blk.c3
    have HD := hide hD
    have HNX := hide hnx
    have HAP := hide (apart_old HAF.out.kept B2.out.size (fun i hi => (N8.out.duo.p.ge i (hFP i hi)).1))
    clear hD hnx hFP
    as_aux_lemma =>
     go_wp2_with fail
     refine (restart_any w8 b F d a.kA a.kN a.kC a.bs HD.out (by have := HDD.out.2.2; omega) (HAF.out.kept.below HB28.out) HAP.out (by have := HKP.out; omega)).mono ?_
     rintro e w9 ⟨rfl, F9, hD9, ho9, hF9⟩
     obtain ⟨P9, h9, hP9, o9⟩ := HNX.out w9 _ F9 hD9 ho9 hF9
     have ST := hide (N8.out.duo.step h9 hP9 o9)
     have H9 := hide (And.intro h9 (And.intro hP9 o9))
     obtain ⟨G, hG, hGD, hny⟩ := ST.out.1.dev
     have HR := hide hG
     have HNY := hide hny
     have HAG := hide (apart_old HAF.out.kept B2.out.size (fun i hi => (ST.out.1.ge i (hGD i hi)).1))
     have HB29 := hide (Below.then_ B2.out h9.below)
     have k3 := (o9.blk N8.out.blk N8.out.np).c3
     clear hD9 ho9 hF9 h9 hP9 o9 hG hGD hny HD HNX
     go_wp2_with fail
     refine (docrestart_any w9 q G d a.kA a.kN a.kC a.bs HR.out (by have := HDD.out.2.2; omega) (HAF.out.kept.below HB29.out) HAG.out (by have := HKP.out; omega)).mono ?_
     rintro e w10 ⟨rfl, G10, hD10, ho10, hG10⟩
     obtain ⟨D10, h10, hD10', o10⟩ := HNY.out w10 _ G10 hD10 ho10 hG10
     have N10 := hide (N8.out.two (K' := 4300 + 4300 * j) H9.out.1 H9.out.2.1 H9.out.2.2 h10 hD10' o10 (HDD.out.1.restart _) (HDD.out.2.1.restart _) (by have := (restart_grew d a.bs).many; have := HDD.out.2.2; omega))
     clear hD10 ho10 hG10 h10 hD10' o10 k3 HR HNY
     go_wp2_with fail
     go_meet
     case rel => exact ⟨_, _, _, _, N10.out⟩
   ·have q0 : (a.kind == 0) = false := by simpa using hk0
    have q2 : (a.kind == 2) = false := by simpa using hk2
    have q3 : (a.kind == 3) = false := by simpa using hk3
    clear hk0 hk1 hk2 hk3
    as_aux_lemma =>
     go_wp2_with fail
     go_meet
     case rel => exact ⟨d, o, P, D, N8.out.more (by omega)⟩
  case rest =>
  obtain ⟨d9, o9, P9, D9, hN9⟩ := hcut
  have N9 := hide hN9
  have k0 := hN9.blk.c0
  obtain ⟨B3, hB3⟩ : ∃ B3 : Bool, B3 = decide (a.kind = 1 ∨ a.kind = 3) := ⟨_, rfl⟩
  obtain ⟨w9, hw9⟩ : ∃ z, z = wc := ⟨_, rfl⟩
  rw [← hw9] at N9 k0 ⊢
  clear hw9 hN9 DU HDD N8 d o P D
  go_upto_region 25 with fail
  go_cut [120] (fun t w' => w' = w9 ∧ t = .bool B3)
  case first =>
   as_aux_lemma =>
    by_cases h1 : a.kind = 1
    ·have e : B3 = true := by rw [hB3]; exact decide_eq_true (.inl h1)
     rw [h1] at k0
     clear h1 hB3
     go_wp2_with fail
     go_meet
     case rel => exact ⟨rfl, by rw [e]⟩
    ·have q1 : (a.kind == 1) = false := by simpa using h1
     by_cases h3 : a.kind = 3
     ·have e : B3 = true := by rw [hB3]; exact decide_eq_true (.inr h3)
      rw [h3] at k0
      clear h1 h3 hB3 q1
      go_wp2_with fail
      go_meet
      case rel => exact ⟨rfl, by rw [e]⟩
     ·have q3 : (a.kind == 3) = false := by simpa using h3
      have e : B3 = false := by rw [hB3]; exact decide_eq_false (by omega)
      clear h1 h3 hB3
      go_wp2_with fail
      go_meet
      case rel => exact ⟨rfl, by rw [e]⟩
  case rest =>
  obtain ⟨hwc, rfl⟩ := hcut
  rw [hwc]
  clear hwc wc k0 hB3
  go_upto_if 120 with fail
  go_cut [9, 11] (fun tv uv w' => ∃ d o P D, Now w2 w' b q tv uv g5 a d o P D (6000 + 4300 * j))
  case first =>
   cases hC : B3 with
   | false =>
    clear hC
    as_aux_lemma =>
     go_wp2_with fail
     go_meet
     case rel => exact ⟨d9, o9, P9, D9, N9.out.more (by omega)⟩
   | true =>
    obtain ⟨F, hD, hFP, _⟩ := N9.out.duo.p.dev
    have HD := hide hD
    have HFP := hide hFP
    clear hC hD hFP
    as_aux_lemma =>
     go_wp2_with fail
     refine (TOpen_any D9 w2 w9 b F d9 HD.out N9.out.bytes (by have := N9.out.few; omega) N9.out.duo.below (fun i hi => (N9.out.duo.p.ge i (HFP.out i hi)).1) (fun i hi => (N9.out.duo.r.ge i hi).2)).mono ?_
     rintro e w10 hp
     obtain ⟨tv10, P10, rfl, h10, hP10, o10⟩ := hp.half (fun T h => (openT_some N9.out.duo.good h).1) N9.out.duo.below HFP.out (fun i hi => (N9.out.duo.p.ge i hi).1)
     have ST := hide (N9.out.duo.step h10 hP10 o10)
     have H10 := hide (And.intro h10 (And.intro hP10 o10))
     obtain ⟨G, hG, hGD, _⟩ := ST.out.1.dev
     have HR := hide hG
     have HGD := hide hGD
     clear hp h10 hP10 o10 hG hGD HD
     go_wp2_with fail
     refine (rTOpen_any P10 w2 w10 q G d9 HR.out ⟨N9.out.ok, by have := N9.out.few; omega, N9.out.bytes⟩ (by have := N9.out.few; omega) ST.out.1.below (fun i hi => (ST.out.1.ge i (HGD.out i hi)).1) (fun i hi => (H10.out.1.ge i hi).2)).mono ?_
     rintro e w11 ⟨hp, hbt⟩
     obtain ⟨uv11, D11, rfl, h11, hD11, o11⟩ := hp.half ST.out.1.below HGD.out (fun i hi => (ST.out.1.ge i hi).1)
     have GR := hide (openT_grew d9 hbt)
     have N11 := hide (N9.out.two (K' := 6000 + 4300 * j) H10.out.1 H10.out.2.1 H10.out.2.2 h11 hD11 o11 (GR.out.bytes N9.out.bytes) (openT_okd N9.out.ok) (by have := GR.out.many; have := N9.out.few; omega))
     clear hp hbt h11 hD11 o11 HR
     go_wp2_with fail
     go_meet
     case rel => exact ⟨_, _, _, _, N11.out⟩
  case rest =>
  obtain ⟨d, o, P, D, hN⟩ := hcut
  obtain ⟨w12, hw12⟩ : ∃ z, z = wc := ⟨_, rfl⟩
  rw [← hw12] at hN ⊢
  have N12 := hide hN
  obtain ⟨F, hD, _, _⟩ := hN.duo.p.dev
  obtain ⟨G, hR, _, _⟩ := hN.duo.r.dev
  have HD := hide hD
  have HR := hide hR
  have HGOOD := hide hD.good
  clear hw12 wc hN hD hR N9
  go_wp2_with fail
  refine (Told_tab w12 b F d HD.out N12.out.bytes).mono ?_
  rintro e w13 ⟨b13, A1, k1, c1, xs1, rfl, hx1, _, hk1⟩
  have N13 := hide (N12.out.under b13)
  have HX1 := hide hx1
  have HR13 := hide (HR.out.under b13)
  have KP1 := hide hk1.in_
  clear b13 hx1 hk1
  go_wp2_with fail
  refine (rTold_any w13 q G d HR13.out ⟨N13.out.ok, by have := N13.out.few; omega, N13.out.bytes⟩).mono ?_
  rintro e w14 ⟨b14, A2, k2, c2, xs2, rfl, hx2, _, hk2⟩
  have N14 := hide (N13.out.under b14)
  have KP1' := hide (KP1.out.below' b14)
  have KP2 := hide hk2.in_
  have hsm := hide (refSameP_any w14 A1 A2 k1 c1 k2 c2 xs1 xs2 KP1'.out KP2.out (by have h1 := KP1'.out.1; have h2 := congrArg List.length HX1.out; have h3 := toldT_few HGOOD.out; rw [List.length_map] at h2; omega) (by have h1 := KP2.out.1; have h2 := congrArg List.length hx2; have h3 := toldT_few HGOOD.out; rw [List.length_map] at h2; omega))
  rw [HX1.out, hx2, same_self9] at hsm
  clear b14 hx2 hk2 KP1 HX1 KP1' KP2 HR HR13 HD N12 N13
  have HNEXT := hide (show ∀ (W : World) (tv uv : Value), Duo w2 W b q tv uv d o P D → (∃ (j' : Nat) (d' : Dev) (o' : Option TableD) (P' D' : Nat → Prop), j' ≤ na ∧ Value.int .i64 ((j : Int) + 1) = .int .i64 (j' : Int) ∧ Duo w2 W b q tv uv d' o' P' D' ∧ d'.Bytes ∧ d'.Ok ∧ d'.written.length ≤ 1700 + 4300 * j') from
   fun W tv uv h => ⟨j + 1, d, o, P, D, by have := HJ.out; omega, by go_num, h, N14.out.bytes, N14.out.ok, by have := N14.out.few; omega⟩)
  rcases N14.out.duo.p.st with ⟨ho, htv, _⟩ | ⟨T, t, g, F2, ho, htv, hT, _, hOk⟩
  ·rcases N14.out.duo.r.st with ⟨_, huv, _⟩ | ⟨T2, u, g2, G2, ho2, _⟩
   ·subst htv; subst huv
    clear ho
    as_aux_lemma =>
     go_wp2_with fail
     refine hsm.out.mono ?_
     rintro e w15 ⟨rfl, b15⟩
     have U15 := hide (N14.out.duo.under b15)
     clear b15 hsm
     go_wp2_with fail
     exact ⟨HNEXT.out _ _ _ U15.out, by have := HJ.out; simp [intOf]; omega⟩
   ·rw [ho] at ho2; cases ho2
  ·rcases N14.out.duo.r.st with ⟨ho2, _⟩ | ⟨T2, u, g2, G2, ho2, huv, hR, _⟩
   ·rw [ho] at ho2; cases ho2
   ·obtain rfl : T = T2 := by rw [ho] at ho2; injection ho2
    subst htv; subst huv
    have HT := hide hT
    have HR := hide hR
    have HOK := hide hOk
    clear hT hR hOk ho2
    as_aux_lemma =>
     go_wp2_with fail
     refine hsm.out.mono ?_
     rintro e w15 ⟨rfl, b15⟩
     have N15 := hide (N14.out.under b15)
     have T15 := hide (HT.out.under b15)
     have R15 := hide (HR.out.under b15)
     have CA1 := (K2.out.under N15.out.duo.below).c1
     have HB215 := hide (Below.then_ B2.out N15.out.duo.below)
     clear b15 hsm HT HR N14
     go_wp2_with fail
     refine (Get_any w2 w15 t g b F2 d T T15.out HOK.out Q0 m0 d0 key (HQ0.out.below HB215.out) HCC.out.2).mono ?_
     rintro e w16 ⟨b16, hget⟩
     obtain ⟨AV, nv, cv, val, rfl, hbv, hval⟩ : ∃ (AV : Option Addr) (nv cv : Nat) (val : List Int), e = .returned (.tuple #[.slice AV nv cv, .bool (foundP T.pairs key)]) ∧ Bys w16 AV nv val ∧ (foundP T.pairs key = true → ∃ p, T.pairs[placeP T.pairs key]? = some p ∧ val = p.value) := by
      rcases hget with ⟨h1, rfl⟩ | ⟨p, A9, n9, c9, h1, h2, rfl, h3, _⟩
      ·exact ⟨none, 0, 0, [], by rw [h1], Bys.nil _ _, fun h => by rw [h1] at h; cases h⟩
      ·exact ⟨A9, n9, c9, p.value, by rw [h1], h3, fun _ => ⟨p, h2, rfl⟩⟩
     have HBV := hide hbv
     have HVAL := hide hval
     have N16 := hide (N15.out.under b16)
     have T16 := hide (T15.out.under b16)
     obtain ⟨A8, k8, c8, xs8, hG8⟩ := R15.out.under b16
     have G8 := hide hG8
     have HK8 := hide (show k8 ≤ 300000 by
      have h7 := right_len HOK.out.right
      have h8 := HOK.out.size
      have h9 := congrArg List.length hG8.data
      rw [List.length_map, hG8.keep.in_.1] at h9
      omega)
     obtain ⟨A7, k7, c7, xs7, hG7⟩ := T15.out.under b16
     have G7 := hide hG7
     obtain ⟨S8, hS8⟩ := hG8.log.log
     have L8 := hide hS8
     have C0 := hide ((K2.out.under N16.out.duo.below).c0)
     have C1 := hide ((K2.out.under N16.out.duo.below).c1)
     have HB16 := hide (Below.then_ B2.out N16.out.duo.below)
     obtain ⟨KY, hKY⟩ : ∃ S, S = ba key := ⟨_, rfl⟩
     have HKY := hide hKY
     obtain ⟨KP, hKP⟩ : ∃ S, S = ba pre := ⟨_, rfl⟩
     have HKP9 := hide hKP
     have HBYT := hide (show Byt pre ∧ Byt key from ⟨HP0.out.2.1, HQ0.out.2.1⟩)
     obtain ⟨fb, hfb⟩ : ∃ f, f = foundP T.pairs key := ⟨_, rfl⟩
     have HFB := hide hfb
     rw [← hfb]
     clear hget hbv hval b16 hG8 hG7 hS8 hKY hKP hfb CA1 T15 R15 N15
     go_wp2_with fail
     refine wp_region_held_drew (S := fun w' => Below w16.heap.size w16 w') (by kernel_rfl) (by exact (Below.refl _ _).drew) (fun hSP0 => ?_)
     obtain ⟨w16d, hwP⟩ : ∃ x, x = w16.drew := ⟨_, rfl⟩
     first | rw [← hwP] at hSP0 ⊢ | rw [← hwP]
     clear hwP
     refine tq 0 rfl hSP0 ?_
     refine tq 1 rfl hSP0 ?_
     refine tq 2 rfl hSP0 ?_
     (refine tq 3 rfl hSP0 ?_ (fun w' hSw => by have z3 := cell_under hSw G8.out.cells.2; go_simp; try with_reducible rfl))
     refine tq 4 rfl hSP0 ?_
     (refine tq 5 rfl hSP0 ?_ (fun w' hSw => by have z1 := cell_under (Below.then_ (Below.refl _ w16) hSw) C1.out; go_simp; try with_reducible rfl))
     (refine tq 6 rfl hSP0 ?_ (fun w' hSw => by have zq := run_str w' Q0 m0 d0 key (HQ0.out.below (Below.then_ HB16.out (Below.then_ (Below.refl _ w16) hSw))); rw [← HKY.out] at zq; go_simp; try with_reducible rfl))
     refine tq 7 rfl hSP0 ?_
     (refine tq 8 rfl hSP0 ?_ (fun w' hSw => by have z1 := cell_under (Below.then_ (Below.refl _ w16) hSw) C1.out; go_simp; try with_reducible rfl))
     (refine tq 9 rfl hSP0 ?_ (fun w' hSw => by have zq := run_str w' Q0 m0 d0 key (HQ0.out.below (Below.then_ HB16.out (Below.then_ (Below.refl _ w16) hSw))); rw [← HKY.out] at zq; go_simp; try with_reducible rfl))
     refine ry 10 rfl fun K hK => ?_
     go_simp
     have hrr := refRange_any w16d A8 k8 c8 xs8 (G8.out.keep.in_.below' (hSP0)) (by have := HK8.out; omega) key key HBYT.out.2 HBYT.out.2 1
     rw [← HKY.out, G8.out.data] at hrr
     refine hrr.mono ?_
     clear hrr
     rintro e w17 ⟨gz, kz, cz, zs, rfl, hzd, hrow, hmz⟩
     have HZD := hide hzd
     have HROW := hide hrow
     have HZF := hide (fun z (hz : z ∈ zs) => ((G8.out.keep.in_.below' (Below.then_ (hSP0) hrow.below)).2.1 z (hmz z hz)))
     have B17 := hide (Below.then_ (hSP0) hrow.below)
     clear hzd hrow hmz
     go_simp
     refine hK.out _ _ (B17.out) (fun hSP1 => ?_)
     clear hK K
     refine tq 11 rfl hSP1 ?_
     refine wpAnyH_done (by kernel_rfl) ?_ _
     have HSING := hide (show (fb = true ∧ ∃ z0, zs = [z0] ∧ z0.key = key ∧ T.pairs[placeP T.pairs key]? = some z0.d) ∨ (fb = false ∧ (zs = [] ∨ ∃ z0, zs = [z0] ∧ z0.key ≠ key)) by
      have h1 := found_eq (right_sorted HOK.out.right) key
      rw [← ask1, ← HZD.out] at h1
      have hl : zs.length ≤ 1 := by
       have h2 := congrArg List.length HZD.out
       rw [List.length_map, ask1, List.length_take] at h2
       omega
      rcases h1 with ⟨h1, p, h2, h3, h4⟩ | ⟨h1, h2⟩
      ·left
       refine ⟨by rw [HFB.out, h1], ?_⟩
       cases zs with
       | nil => cases h4
       | cons z0 r =>
        have hr : r = [] := by cases r with | nil => rfl | cons _ _ => simp at hl
        subst hr
        injection h4 with h5 _
        exact ⟨z0, rfl, by rw [← h5] at h3; exact h3, by rw [h2, h5]⟩
      ·right
       refine ⟨by rw [HFB.out, h1], ?_⟩
       cases zs with
       | nil => exact .inl rfl
       | cons z0 r =>
        have hr : r = [] := by cases r with | nil => rfl | cons _ _ => simp at hl
        subst hr
        exact .inr ⟨z0, rfl, h2 z0.d rfl⟩)
     have N17 := hide (N16.out.under B17.out)
     go_upto_region 37 with fail
     go_cut [22] (fun t w' => Below w17.heap.size w17 w' ∧ t = .bool fb)
     case first =>
      rcases HSING.out with ⟨hf, z0, hz0, hzk, _⟩ | ⟨hf, hz0 | ⟨z0, hz0, hzk⟩⟩
      ·have e : fb = true := hf
       obtain rfl : kz = 1 := by rw [← HROW.out.len, hz0]; rfl
       have Z0 := hide (HROW.out.at_ (show zs[0]? = some z0 by rw [hz0]; rfl))
       have ZF := hide (HZF.out z0 (by rw [hz0]; simp))
       have HZK := hide hzk
       clear hf hz0 hzk
       refine wp_region_held_drew (S := fun w' => Below w17.heap.size w17 w') (by kernel_rfl) (by exact (Below.refl _ _).drew) (fun hSQA0 => ?_)
       obtain ⟨w17d, hwQA⟩ : ∃ x, x = w17.drew := ⟨_, rfl⟩
       first | rw [← hwQA] at hSQA0 ⊢ | rw [← hwQA]
       clear hwQA
       refine tq 0 rfl hSQA0 ?_
       refine tq 1 rfl hSQA0 ?_
       refine tq 2 rfl hSQA0 ?_
       refine tq 3 rfl hSQA0 ?_
       refine tq 4 rfl hSQA0 ?_
       refine tq 5 rfl hSQA0 ?_
       refine tq 6 rfl hSQA0 ?_
       (refine tq 7 rfl hSQA0 ?_ (fun w' hSw => by have z7 := cell_under hSw (show w17.cell? ⟨gz, 0, none⟩ = some (.slice z0.kA z0.kN z0.kC) from by have h9 := Z0.out 0 _ rfl; simpa using h9); go_simp; try with_reducible rfl))
       (refine tq 8 rfl hSQA0 ?_ (fun w' hSw => by have z8 := run_str w' z0.kA z0.kN z0.kC z0.key (ZF.out.key.below hSw); rw [HZK.out, ← HKY.out] at z8; go_simp; try with_reducible rfl))
       refine tq 9 rfl hSQA0 ?_
       (refine tq 10 rfl hSQA0 ?_ (fun w' hSw => by have z1 := cell_under (Below.then_ B17.out hSw) C1.out; go_simp; try with_reducible rfl))
       (refine tq 11 rfl hSQA0 ?_ (fun w' hSw => by have zq := run_str w' Q0 m0 d0 key (HQ0.out.below (Below.then_ HB16.out (Below.then_ B17.out hSw))); rw [← HKY.out] at zq; go_simp; try with_reducible rfl))
       refine tq 12 rfl hSQA0 ?_
       refine tq 13 rfl hSQA0 ?_
       refine tq 14 rfl hSQA0 ?_
       refine wpAnyH_done (by kernel_rfl) ?_ _
       go_wp2_with fail
       go_meet
       case rel => exact ⟨hSQA0, by rw [e]⟩
      ·have e : fb = false := hf
       obtain rfl : kz = 0 := by rw [← HROW.out.len, hz0]; rfl
       clear hf hz0
       refine wp_region_held_drew (S := fun w' => Below w17.heap.size w17 w') (by kernel_rfl) (by exact (Below.refl _ _).drew) (fun hSQB0 => ?_)
       obtain ⟨w17d, hwQB⟩ : ∃ x, x = w17.drew := ⟨_, rfl⟩
       first | rw [← hwQB] at hSQB0 ⊢ | rw [← hwQB]
       clear hwQB
       refine tq 0 rfl hSQB0 ?_
       refine tq 1 rfl hSQB0 ?_
       refine tq 2 rfl hSQB0 ?_
       refine tq 3 rfl hSQB0 ?_
       refine tm 4 rfl hSQB0 ?_
       refine tm 5 rfl hSQB0 ?_
       refine tm 6 rfl hSQB0 ?_
       refine tm 7 rfl hSQB0 ?_
       refine tm 8 rfl hSQB0 ?_
       refine tm 9 rfl hSQB0 ?_
       refine tm 10 rfl hSQB0 ?_
       refine tm 11 rfl hSQB0 ?_
       refine tm 12 rfl hSQB0 ?_
       refine tq 13 rfl hSQB0 ?_
       refine tq 14 rfl hSQB0 ?_
       refine wpAnyH_done (by kernel_rfl) ?_ _
       go_wp2_with fail
       go_meet
       case rel => exact ⟨hSQB0, by rw [e]⟩
      ·have e : fb = false := hf
       obtain rfl : kz = 1 := by rw [← HROW.out.len, hz0]; rfl
       have Z0 := hide (HROW.out.at_ (show zs[0]? = some z0 by rw [hz0]; rfl))
       have ZF := hide (HZF.out z0 (by rw [hz0]; simp))
       obtain ⟨ZK, hZK⟩ : ∃ S, S = ba z0.key := ⟨_, rfl⟩
       have HZK := hide hZK
       have hbe : (ZK.toList == KY.toList) = false := by
        rw [hZK, HKY.out, baBeq _ _ ZF.out.key.2.1 HBYT.out.2]
        exact decide_eq_false hzk
       clear hf hz0 hzk hZK
       refine wp_region_held_drew (S := fun w' => Below w17.heap.size w17 w') (by kernel_rfl) (by exact (Below.refl _ _).drew) (fun hSQC0 => ?_)
       obtain ⟨w17d, hwQC⟩ : ∃ x, x = w17.drew := ⟨_, rfl⟩
       first | rw [← hwQC] at hSQC0 ⊢ | rw [← hwQC]
       clear hwQC
       refine tq 0 rfl hSQC0 ?_
       refine tq 1 rfl hSQC0 ?_
       refine tq 2 rfl hSQC0 ?_
       refine tq 3 rfl hSQC0 ?_
       refine tq 4 rfl hSQC0 ?_
       refine tq 5 rfl hSQC0 ?_
       refine tq 6 rfl hSQC0 ?_
       (refine tq 7 rfl hSQC0 ?_ (fun w' hSw => by have z7 := cell_under hSw (show w17.cell? ⟨gz, 0, none⟩ = some (.slice z0.kA z0.kN z0.kC) from by have h9 := Z0.out 0 _ rfl; simpa using h9); go_simp; try with_reducible rfl))
       (refine tq 8 rfl hSQC0 ?_ (fun w' hSw => by have z8 := run_str w' z0.kA z0.kN z0.kC z0.key (ZF.out.key.below hSw); rw [← HZK.out] at z8; go_simp; try with_reducible rfl))
       refine tq 9 rfl hSQC0 ?_
       (refine tq 10 rfl hSQC0 ?_ (fun w' hSw => by have z1 := cell_under (Below.then_ B17.out hSw) C1.out; go_simp; try with_reducible rfl))
       (refine tq 11 rfl hSQC0 ?_ (fun w' hSw => by have zq := run_str w' Q0 m0 d0 key (HQ0.out.below (Below.then_ HB16.out (Below.then_ B17.out hSw))); rw [← HKY.out] at zq; go_simp; try with_reducible rfl))
       refine tq 12 rfl hSQC0 ?_
       refine tq 13 rfl hSQC0 ?_
       refine tq 14 rfl hSQC0 ?_
       refine wpAnyH_done (by kernel_rfl) ?_ _
       go_wp2_with fail
       go_meet
       case rel => exact ⟨hSQC0, by rw [e]⟩
     case rest =>
     obtain ⟨hbc, rfl⟩ := hcut
     obtain ⟨w18, hw18⟩ : ∃ z, z = wc := ⟨_, rfl⟩
     rw [← hw18] at hbc ⊢
     have N18 := hide (N17.out.under hbc)
     have B18 := hide (Below.then_ B17.out hbc)
     have ROW18 := hide (HROW.out.under hbc)
     have B718 := hide hbc
     clear hw18 wc hbc N17
     go_upto_region 38 with fail
     go_cut [234] (fun t w' => Below w18.heap.size w18 w' ∧ t = .bool false)
     case first =>
      rcases HSING.out with ⟨hf, z0, hz0, hzk, hpl⟩ | ⟨hf, _⟩
      ·obtain ⟨p, hp1, hp2⟩ := HVAL.out (by rw [← HFB.out]; exact hf)
       have HPV := hide (show val = z0.value by
        rw [hpl] at hp1
        injection hp1 with hp1
        rw [hp2, ← hp1]
        rfl)
       obtain rfl : kz = 1 := by rw [← HROW.out.len, hz0]; rfl
       have Z0 := hide (ROW18.out.at_ (show zs[0]? = some z0 by rw [hz0]; rfl))
       have ZF := hide ((HZF.out z0 (by rw [hz0]; simp)).below B718.out)
       obtain ⟨VS, hVS⟩ : ∃ S, S = ba val := ⟨_, rfl⟩
       have HVS := hide hVS
       subst hf
       clear hz0 hzk hpl hp1 hp2 hVS
       refine wp_region_held_drew (S := fun w' => Below w18.heap.size w18 w') (by kernel_rfl) (by exact (Below.refl _ _).drew) (fun hSRA0 => ?_)
       obtain ⟨w18d, hwRA⟩ : ∃ x, x = w18.drew := ⟨_, rfl⟩
       first | rw [← hwRA] at hSRA0 ⊢ | rw [← hwRA]
       clear hwRA
       refine tq 0 rfl hSRA0 ?_
       refine tq 1 rfl hSRA0 ?_
       refine tq 2 rfl hSRA0 ?_
       refine tq 3 rfl hSRA0 ?_
       refine tq 4 rfl hSRA0 ?_
       refine tq 5 rfl hSRA0 ?_
       refine tq 6 rfl hSRA0 ?_
       (refine tq 7 rfl hSRA0 ?_ (fun w' hSw => by have z7 := run_str w' AV nv cv val (HBV.out.below (Below.then_ B18.out hSw)); rw [← HVS.out] at z7; go_simp; try with_reducible rfl))
       refine tq 8 rfl hSRA0 ?_
       as_aux_lemma =>
        refine tq 9 rfl hSRA0 ?_
        refine tq 10 rfl hSRA0 ?_
        (refine tq 11 rfl hSRA0 ?_ (fun w' hSw => by have z11 := cell_under hSw (show w18.cell? ⟨gz, 1, none⟩ = some (.slice z0.vA z0.vN z0.vC) from by have h9 := Z0.out 1 _ rfl; simpa using h9); go_simp; try with_reducible rfl))
        (refine tq 12 rfl hSRA0 ?_ (fun w' hSw => by have z12 := run_str w' z0.vA z0.vN z0.vC z0.value (ZF.out.value.below hSw); rw [← HPV.out, ← HVS.out] at z12; go_simp; try with_reducible rfl))
        refine tq 13 rfl hSRA0 ?_
        refine tq 14 rfl hSRA0 ?_
        refine tq 15 rfl hSRA0 ?_
        refine tq 16 rfl hSRA0 ?_
        refine tq 17 rfl hSRA0 ?_
        as_aux_lemma =>
         refine tq 18 rfl hSRA0 ?_
         refine tq 19 rfl hSRA0 ?_
         (refine tq 20 rfl hSRA0 ?_ (fun w' hSw => by have z20 := cell_under (Below.then_ B18.out hSw) G7.out.blk.c0; go_simp; try with_reducible rfl))
         refine tq 22 rfl hSRA0 ?_
         refine tq 23 rfl hSRA0 ?_
         refine tq 24 rfl hSRA0 ?_
         (refine tq 25 rfl hSRA0 ?_ (fun w' hSw => by have z25 := cell_under (Below.then_ B18.out hSw) G8.out.cells.1; go_simp; try with_reducible rfl))
         refine tq 26 rfl hSRA0 ?_
         refine tq 27 rfl hSRA0 ?_
         as_aux_lemma =>
          (refine tq 28 rfl hSRA0 ?_ (fun w' hSw => by have z28 := cell_under (Below.then_ B18.out hSw) L8.out.cready; go_simp; try with_reducible rfl))
          refine ry 21 rfl fun K hK => ?_
          go_simp
          refine (Ready_any w18d g b T.log (G7.out.log.log.under (Below.then_ B18.out (hSRA0)))).mono ?_
          rintro e wz ⟨rfl, hwz⟩
          rw [← hwz]
          clear hwz
          go_simp
          refine hK.out _ _ (hSRA0) (fun hSRA1 => ?_)
          clear hK K
          refine tq 29 rfl hSRA1 ?_
          refine tq 30 rfl hSRA1 ?_
          refine tq 31 rfl hSRA1 ?_
          refine tq 32 rfl hSRA1 ?_
          refine tq 34 rfl hSRA1 ?_
          refine tq 35 rfl hSRA1 ?_
          refine tq 36 rfl hSRA1 ?_
          as_aux_lemma =>
           (refine tq 37 rfl hSRA1 ?_ (fun w' hSw => by have z37 := cell_under (Below.then_ B18.out hSw) G8.out.cells.2; go_simp; try with_reducible rfl))
           refine ry 33 rfl fun K hK => ?_
           go_simp
           refine (TAll_any w2 w18d t g b F2 d T (T16.out.under (Below.then_ B18.out (hSRA1))) HOK.out).mono ?_
           rintro e wL ⟨A9, k9, c9, zs9, rfl, hz9, hrow9, bL⟩
           have HZ9 := hide hz9
           have P9 := hide hrow9.in_
           have BL := hide (Below.then_ (hSRA1) bL)
           clear hz9 hrow9 bL
           go_simp
           refine hK.out _ _ (BL.out) (fun hSRA2 => ?_)
           clear hK K
           refine ry 38 rfl fun K hK => ?_
           go_simp
           have hss := refSameP_any wL A9 A8 k9 c9 k8 c8 zs9 xs8 P9.out (G8.out.keep.in_.below' (Below.then_ B18.out (hSRA2))) (by have h1 := P9.out.1; have h2 := congrArg List.length HZ9.out; have h3 := right_len HOK.out.right; have h4 := HOK.out.size; rw [List.length_map] at h2; omega) (by have := HK8.out; omega)
           rw [HZ9.out, G8.out.data, same_self9] at hss
           refine hss.mono ?_
           clear hss
           rintro e wM ⟨rfl, bM⟩
           have BM := hide (Below.then_ (hSRA2) bM)
           clear bM
           go_simp
           refine hK.out _ _ (BM.out) (fun hSRA3 => ?_)
           clear hK K
           refine tq 39 rfl hSRA3 ?_
           refine tq 40 rfl hSRA3 ?_
           refine wpAnyH_done (by kernel_rfl) ?_ _
           go_wp2_with fail
           go_meet
           case rel => exact ⟨hSRA3, rfl⟩
      ·subst hf
       refine wp_region_held_drew (S := fun w' => Below w18.heap.size w18 w') (by kernel_rfl) (by exact (Below.refl _ _).drew) (fun hSRB0 => ?_)
       obtain ⟨w18d, hwRB⟩ : ∃ x, x = w18.drew := ⟨_, rfl⟩
       first | rw [← hwRB] at hSRB0 ⊢ | rw [← hwRB]
       clear hwRB
       refine tq 0 rfl hSRB0 ?_
       refine tq 1 rfl hSRB0 ?_
       refine tq 2 rfl hSRB0 ?_
       refine tq 3 rfl hSRB0 ?_
       refine tq 4 rfl hSRB0 ?_
       refine tq 5 rfl hSRB0 ?_
       refine tm 6 rfl hSRB0 ?_
       refine tm 7 rfl hSRB0 ?_
       refine tm 8 rfl hSRB0 ?_
       as_aux_lemma =>
        refine tm 9 rfl hSRB0 ?_
        refine tm 10 rfl hSRB0 ?_
        refine tm 11 rfl hSRB0 ?_
        refine tm 12 rfl hSRB0 ?_
        refine tm 13 rfl hSRB0 ?_
        refine tq 14 rfl hSRB0 ?_
        refine tq 15 rfl hSRB0 ?_
        refine tq 16 rfl hSRB0 ?_
        refine tq 17 rfl hSRB0 ?_
        as_aux_lemma =>
         refine tq 18 rfl hSRB0 ?_
         refine tq 19 rfl hSRB0 ?_
         (refine tq 20 rfl hSRB0 ?_ (fun w' hSw => by have z20 := cell_under (Below.then_ B18.out hSw) G7.out.blk.c0; go_simp; try with_reducible rfl))
         refine tq 22 rfl hSRB0 ?_
         refine tq 23 rfl hSRB0 ?_
         refine tq 24 rfl hSRB0 ?_
         (refine tq 25 rfl hSRB0 ?_ (fun w' hSw => by have z25 := cell_under (Below.then_ B18.out hSw) G8.out.cells.1; go_simp; try with_reducible rfl))
         refine tq 26 rfl hSRB0 ?_
         refine tq 27 rfl hSRB0 ?_
         as_aux_lemma =>
          (refine tq 28 rfl hSRB0 ?_ (fun w' hSw => by have z28 := cell_under (Below.then_ B18.out hSw) L8.out.cready; go_simp; try with_reducible rfl))
          refine ry 21 rfl fun K hK => ?_
          go_simp
          refine (Ready_any w18d g b T.log (G7.out.log.log.under (Below.then_ B18.out (hSRB0)))).mono ?_
          rintro e wz ⟨rfl, hwz⟩
          rw [← hwz]
          clear hwz
          go_simp
          refine hK.out _ _ (hSRB0) (fun hSRB1 => ?_)
          clear hK K
          refine tq 29 rfl hSRB1 ?_
          refine tq 30 rfl hSRB1 ?_
          refine tq 31 rfl hSRB1 ?_
          refine tq 32 rfl hSRB1 ?_
          refine tq 34 rfl hSRB1 ?_
          refine tq 35 rfl hSRB1 ?_
          refine tq 36 rfl hSRB1 ?_
          as_aux_lemma =>
           (refine tq 37 rfl hSRB1 ?_ (fun w' hSw => by have z37 := cell_under (Below.then_ B18.out hSw) G8.out.cells.2; go_simp; try with_reducible rfl))
           refine ry 33 rfl fun K hK => ?_
           go_simp
           refine (TAll_any w2 w18d t g b F2 d T (T16.out.under (Below.then_ B18.out (hSRB1))) HOK.out).mono ?_
           rintro e wL ⟨A9, k9, c9, zs9, rfl, hz9, hrow9, bL⟩
           have HZ9 := hide hz9
           have P9 := hide hrow9.in_
           have BL := hide (Below.then_ (hSRB1) bL)
           clear hz9 hrow9 bL
           go_simp
           refine hK.out _ _ (BL.out) (fun hSRB2 => ?_)
           clear hK K
           refine ry 38 rfl fun K hK => ?_
           go_simp
           have hss := refSameP_any wL A9 A8 k9 c9 k8 c8 zs9 xs8 P9.out (G8.out.keep.in_.below' (Below.then_ B18.out (hSRB2))) (by have h1 := P9.out.1; have h2 := congrArg List.length HZ9.out; have h3 := right_len HOK.out.right; have h4 := HOK.out.size; rw [List.length_map] at h2; omega) (by have := HK8.out; omega)
           rw [HZ9.out, G8.out.data, same_self9] at hss
           refine hss.mono ?_
           clear hss
           rintro e wM ⟨rfl, bM⟩
           have BM := hide (Below.then_ (hSRB2) bM)
           clear bM
           go_simp
           refine hK.out _ _ (BM.out) (fun hSRB3 => ?_)
           clear hK K
           refine tq 39 rfl hSRB3 ?_
           refine tq 40 rfl hSRB3 ?_
           refine wpAnyH_done (by kernel_rfl) ?_ _
           go_wp2_with fail
           go_meet
           case rel => exact ⟨hSRB3, rfl⟩
     case rest =>
     obtain ⟨hbc, rfl⟩ := hcut
     obtain ⟨w19, hw19⟩ : ∃ z, z = wc := ⟨_, rfl⟩
     rw [← hw19] at hbc ⊢
     have N19 := hide (N18.out.under hbc)
     have B19 := hide (Below.then_ B18.out hbc)
     clear hw19 wc hbc
     go_wp2_with fail
     refine wp_region_held_drew (S := fun w' => Below w19.heap.size w19 w') (by kernel_rfl) (by exact (Below.refl _ _).drew) (fun hST0 => ?_)
     obtain ⟨w19d, hwT⟩ : ∃ x, x = w19.drew := ⟨_, rfl⟩
     first | rw [← hwT] at hST0 ⊢ | rw [← hwT]
     clear hwT
     refine tq 0 rfl hST0 ?_
     refine tq 1 rfl hST0 ?_
     (refine tq 2 rfl hST0 ?_ (fun w' hSw => by have z0 := cell_under (Below.then_ B19.out hSw) C0.out; go_simp; try with_reducible rfl))
     refine tq 3 rfl hST0 ?_
     (refine tq 4 rfl hST0 ?_ (fun w' hSw => by have z1 := cell_under (Below.then_ B19.out hSw) C1.out; go_simp; try with_reducible rfl))
     refine tq 5 rfl hST0 ?_
     (refine tq 6 rfl hST0 ?_ (fun w' hSw => by have za := cell_under hSw N19.out.blk.c1; go_simp; try with_reducible rfl))
     refine tq 8 rfl hST0 ?_
     refine tq 9 rfl hST0 ?_
     as_aux_lemma =>
      refine tq 10 rfl hST0 ?_
      (refine tq 11 rfl hST0 ?_ (fun w' hSw => by have z11 := cell_under (Below.then_ B19.out hSw) G8.out.cells.2; go_simp; try with_reducible rfl))
      refine tq 12 rfl hST0 ?_
      (refine tq 13 rfl hST0 ?_ (fun w' hSw => by have z0 := cell_under (Below.then_ B19.out hSw) C0.out; go_simp; try with_reducible rfl))
      (refine tq 14 rfl hST0 ?_ (fun w' hSw => by have zp := run_str w' P0 n0 c0 pre (HP0.out.below (Below.then_ HB16.out (Below.then_ B19.out hSw))); rw [← HKP9.out] at zp; go_simp; try with_reducible rfl))
      refine tq 15 rfl hST0 ?_
      (refine tq 16 rfl hST0 ?_ (fun w' hSw => by have z1 := cell_under (Below.then_ B19.out hSw) C1.out; go_simp; try with_reducible rfl))
      (refine tq 17 rfl hST0 ?_ (fun w' hSw => by have zq := run_str w' Q0 m0 d0 key (HQ0.out.below (Below.then_ HB16.out (Below.then_ B19.out hSw))); rw [← HKY.out] at zq; go_simp; try with_reducible rfl))
      refine tq 18 rfl hST0 ?_
      as_aux_lemma =>
       (refine tq 19 rfl hST0 ?_ (fun w' hSw => by have za := cell_under hSw N19.out.blk.c1; go_simp; try with_reducible rfl))
       refine ry 7 rfl fun K hK => ?_
       go_simp
       refine (range_from w2 w19d t g b F2 d T (T16.out.under (Below.then_ B19.out (hST0))) HOK.out P0 n0 c0 pre (HP0.out.below (Below.then_ HB16.out (Below.then_ B19.out (hST0)))) HCC.out.1 (by have := HSM.out; omega) Q0 m0 d0 key (HQ0.out.below (Below.then_ HB16.out (Below.then_ B19.out (hST0)))) HCC.out.2 a.num HAF.out.num).mono ?_
       rintro e wG ⟨AX, kX, cX, zsX, rfl, hzX, hrowX, bX⟩
       have HZX := hide (show zsX.map PairV.d = asked T.pairs pre key a.num by rw [hzX, ask_eq (right_sorted HOK.out.right)])
       have PX := hide hrowX.in_
       try have PY := hide (PY.out.below' bX)
       have BG := hide (Below.then_ (hST0) bX)
       clear hzX hrowX bX
       go_simp
       refine hK.out _ _ (BG.out) (fun hST1 => ?_)
       clear hK K
       refine ry 20 rfl fun K hK => ?_
       go_simp
       have hrr := refRange_any wG A8 k8 c8 xs8 (G8.out.keep.in_.below' (Below.then_ B19.out (hST1))) (by have := HK8.out; omega) pre key HBYT.out.1 HBYT.out.2 a.num
       rw [← HKY.out, ← HKP9.out, G8.out.data] at hrr
       refine hrr.mono ?_
       clear hrr
       rintro e wH ⟨gY, kY, cY, zsY, rfl, hzY, hrowY, hmY⟩
       have HZY := hide hzY
       have PY := hide (hrowY.in_ fun z hz => ((G8.out.keep.in_.below' (Below.then_ B19.out (Below.then_ (hST1) hrowY.below))).2.1 z (hmY z hz)))
       try have PX := hide (PX.out.below' hrowY.below)
       have BH := hide (Below.then_ (hST1) hrowY.below)
       clear hzY hrowY hmY
       go_simp
       refine hK.out _ _ (BH.out) (fun hST2 => ?_)
       clear hK K
       refine ry 21 rfl fun K hK => ?_
       go_simp
       have hss := refSameP_any wH AX (some ⟨gY, 0, none⟩) kX cX kY cY zsX zsY PX.out PY.out (by have h1 := PX.out.1; have h2 := congrArg List.length HZX.out; have h3 := asked_len T.pairs pre key a.num; have h4 := right_len HOK.out.right; have h5 := HOK.out.size; rw [List.length_map] at h2; omega) (by have h1 := PY.out.1; have h2 := congrArg List.length HZY.out; have h3 := asked_len T.pairs pre key a.num; have h4 := right_len HOK.out.right; have h5 := HOK.out.size; rw [List.length_map] at h2; omega)
       rw [HZX.out, HZY.out, same_self9] at hss
       refine hss.mono ?_
       clear hss
       rintro e wM ⟨rfl, bM⟩
       have BM := hide (Below.then_ (hST2) bM)
       clear bM
       go_simp
       refine hK.out _ _ (BM.out) (fun hST3 => ?_)
       clear hK K
       refine tq 22 rfl hST3 ?_
       refine wpAnyH_done (by kernel_rfl) ?_ _
       have NZ := hide (N19.out.under BM.out)
       go_wp2_with fail
       exact ⟨HNEXT.out _ _ _ NZ.out.duo, by have := HJ.out; simp [intOf]; omega⟩
 ·have i1 : ¬ (j : Int) < (na : Int) := by omega
  as_aux_lemma =>
   go_wp2_with fail
   go_ret
   exact ⟨rfl, Below.then_ B2.out hduo.below⟩
end
end Go.Proofs.YtjnpkcabkccaoaaGreat
