/- Lemmas and walks for TableRuns, packed. -/
import Derived.Test.YtjnpkcabkccaoaaGreatQ30
import Derived.Test.YtjnpkcabkccaoaaGreatQ1
import Derived.OpenShut
import Derived.Carry
import Derived.ChangeCalls
import Derived.Deep.Slices
import Derived.Deep.Fields
import Derived.Lib.SmallJoins
set_option maxRecDepth 100000
set_option maxHeartbeats 16000000
namespace Go.Proofs.YtjnpkcabkccaoaaGreat
open Go.RowKit
theorem LogPost.trans {w w1 w2 : World} {g b : Nat} {F F1 : Nat → Prop} {r : Dev × LogD × Int} {e : Ending} (h1 : Only (fun i => F i ∨ i = g) w w1) (hF : ∀ i, F1 i → F i ∨ w.heap.size ≤ i) (h2 : LogPost w1 g b F1 r e w2) : LogPost w g b F r e w2 := by
 obtain ⟨he, F', hD, hL, ho, hF'⟩ := h2
 refine ⟨he, F', hD, hL, h1.trans ho (fun i hi hf => ?_), fun i hi => ?_⟩
 ·rcases hf with hf | hf
  ·rcases hF i hf with h9 | h9
   ·exact .inl h9
   ·omega
  ·exact .inr hf
 ·rcases hF' i hi with h9 | h9
  ·exact hF i h9
  ·right; have := h1.size; omega
theorem tab_cell0 {W : World} {t g b : Nat} {v : Value} (h : Blk W t 62 [.pointer (some ⟨g, 0, none⟩), .pointer (some ⟨b, 0, none⟩), v]) : W.cell? ⟨t, 0, none⟩ = some (.pointer (some ⟨g, 0, none⟩)) := h.c0
theorem keep_any (w : World) (t g b : Nat) (F : Nat → Prop) (d : Dev) (l : LogD) (v : Value) (A B : Option Addr) (n c m q : Nat) (xs ys : List Int) (hL : LogAt w g b l) (h : DevRep w b F d) (hdb : d.Bytes) (hgF : ¬ F g) (htF : ¬ F t) (htg : t ≠ g)
  (hT : Blk w t 62 [.pointer (some ⟨g, 0, none⟩), .pointer (some ⟨b, 0, none⟩), v]) (hA : Bys w A n xs) (hB : Bys w B m ys) (hap : Apart B m (fun i => F i ∨ i = g)) (hn : n ≤ 140737488355328) (hm : m ≤ 140737488355328) (hin : l.In) (hw : d.written.length ≤ 600000) :
  Calls Tryz.prog 32 #[.pointer (some ⟨t, 0, none⟩), .slice A n c, .slice B m q] w (LogPost w g b F (keepL d l xs ys)) := by
 have ha := hide (Add_any w g b F d l A n c xs hL h hdb hgF hA hn hin.1 (by have := hin.2; omega) (by omega))
 have GR := hide (addL_grew d l xs hA.2.1)
 have HT := hide hT
 have HB := hide hB
 have HAP := hide hap
 have HNF := hide (show ¬ F g ∧ ¬ F t ∧ t ≠ g from ⟨hgF, htF, htg⟩)
 have HW := hide hw
 have HM := hide hm
 have HDB := hide hdb
 have HLT := hide (show g < w.heap.size ∧ t < w.heap.size from ⟨hL.blk.lt, hT.lt⟩)
 have c0 := tab_cell0 hT
 have KE := hide (show keepL d l xs ys = if (addL d l xs).2.2 = 0 then syncL (addL d l xs).1 (addL d l xs).2.1 else if (addL d l xs).2.2 = 142 then beginL (addL d l xs).1 (addL d l xs).2.1 ys else addL d l xs from rfl)
 obtain ⟨d1, l1, e1, hr⟩ : ∃ d1 l1 e1, addL d l xs = (d1, l1, e1) := ⟨_, _, _, rfl⟩
 rw [hr] at ha GR KE
 simp only at GR KE
 clear hL h hdb hgF htF htg hT hA hB hap hn hm hin hw hr
 go_enter Tryz.func32, Tryz.ntmps32
 go_wp2_with fail
 refine ha.out.mono ?_
 rintro e w1 ⟨rfl, F1, hD1, hL1, o1, hF1⟩
 have D1 := hide hD1
 have L1 := hide hL1
 have O1 := hide o1
 have FF := hide hF1
 have T1 := hide (o1.blk HT.out (fun hf => by
  rcases hf with hf | hf
  ·exact HNF.out.2.1 hf
  ·exact HNF.out.2.2 hf))
 have NG := hide (show ¬ F1 g from fun hf => by
  rcases hF1 g hf with h9 | h9
  ·exact HNF.out.1 h9
  ·have := HLT.out.1; omega)
 have HB1 := hide (HB.out.keep o1 HAP.out)
 have W1 := hide (show d1.written.length ≤ 601000 by have := GR.out.many; have := HW.out; omega)
 have c0 := tab_cell0 T1.out
 clear hD1 hL1 o1 hF1 ha
 simp only
 by_cases h0 : e1 = 0
 ·subst h0
  have KQ := hide (KE.out.trans (if_pos rfl))
  go_wp2_with fail
  refine (Sync_any w1 g b F1 d1 l1 L1.out D1.out NG.out (by have := W1.out; omega)).mono ?_
  rintro e w2 hp
  have HP := hide (LogPost.trans O1.out FF.out hp)
  obtain ⟨he, _⟩ := hp
  subst he
  go_wp2_with fail
  go_ret
  rw [KQ.out]
  exact HP.out
 ·have q0 : (e1 == 0) = false := by simpa using h0
  by_cases h2 : e1 = 142
  ·subst h2
   have KQ := hide (show keepL d l xs ys = beginL d1 l1 ys from KE.out)
   clear c0 q0 h0
   have c0 := tab_cell0 T1.out
   go_wp2_with fail
   refine (Begin_any w1 g b F1 d1 l1 B m q ys L1.out D1.out (GR.out.bytes HDB.out) NG.out HB1.out (fun hpos ad e hf => HAP.out hpos ad e (.inr hf)) HM.out (by have := W1.out; omega)).mono ?_
   rintro e w2 hp
   have HP := hide (LogPost.trans O1.out FF.out hp)
   obtain ⟨he, _⟩ := hp
   subst he
   go_wp2_with fail
   go_ret
   rw [KQ.out]
   exact HP.out
  ·have q2 : (e1 == 142) = false := by simpa using h2
   have KQ := hide (show keepL d l xs ys = (d1, l1, e1) by rw [KE.out, if_neg h0, if_neg h2])
   clear h0 h2
   go_wp2_with fail
   go_ret
   rw [KQ.out]
   exact ⟨rfl, F1, D1.out, L1.out, O1.out, FF.out⟩
theorem psize_small {w : World} {A : Option Addr} {n : Nat} {xs : List PairV} (h : PairsIn w A n xs) (hs : psize (xs.map PairV.d) ≤ 1000000000) : ∀ p ∈ xs, SmallP p := fun p hp => by
 have h1 := psize_mem (l := xs.map PairV.d) (p := p.d) (List.mem_map_of_mem hp)
 have h2 := (h.2.1 p hp).key.1
 have h3 := (h.2.1 p hp).value.1
 simp only [PairV.d] at h1
 exact ⟨by omega, by omega⟩
theorem LogW.turn {w0 W W' : World} {g b t : Nat} {F : Nat → Prop} {d : Dev} {l : LogD} (h : LogW w0 W g b F d l) (ho : Only (fun i => i = t) W W') (hF : ¬ F t) (hg : t ≠ g) (ht : w0.heap.size ≤ t) : LogW w0 W' g b F d l :=
 ⟨h.dev.keep ho (fun i hf e => hF (by have h9 : i = t := e; rw [← h9]; exact hf)), h.log.keep ho (fun e => hg e.symm), h.ng, Nat.lt_of_lt_of_le h.gl ho.size, h.g0, h.below.trans (ho.below h.below.size (fun i hi e => by have h9 : i = t := e; omega)), h.fresh⟩
def TabPost (H : Nat → Prop) (w0 w : World) (t g b : Nat) (F : Nat → Prop) (r : Dev × TableD × Int) (e : Ending) (w' : World) : Prop :=
 e = .returned (.int .i64 r.2.2) ∧ ∃ F', TabW H w0 w' t g b F' r.1 r.2.1 ∧ (∀ i, F' i → F i ∨ w.heap.size ≤ i) ∧ Only (fun i => F i ∨ i = g ∨ i = t) w w'
theorem TabG.cells {H : Nat → Prop} {w0 W : World} {t g b : Nat} {F : Nat → Prop} {d : Dev} {T : TableD} {A : Option Addr} {k c : Nat} {xs : List PairV} (h : TabG H w0 W t g b F d T A k c xs) :
  W.cell? ⟨t, 0, none⟩ = some (.pointer (some ⟨g, 0, none⟩)) ∧ W.cell? ⟨t, 1, none⟩ = some (.pointer (some ⟨b, 0, none⟩)) ∧ W.cell? ⟨t, 2, none⟩ = some (.slice A k c) := ⟨h.blk.c0, h.blk.c1, h.blk.c2⟩
theorem tab_same {H : Nat → Prop} {w0 w w' : World} {t g b : Nat} {F : Nat → Prop} {d : Dev} {T : TableD} {r : Dev × TableD × Int} {x : Int} {e : Ending} (h : TabW H w0 w' t g b F d T) (hb : Below w.heap.size w w') (hr : r = (d, T, x)) (he : e = .returned (.int .i64 x)) : TabPost H w0 w t g b F r e w' := by
 subst hr
 exact ⟨he, F, h, fun i hf => .inl hf, Only.of_below hb _⟩
theorem Apply_any (H : Nat → Prop) (w0 w : World) (t g b : Nat) (F : Nat → Prop) (d : Dev) (T : TableD) (A : Option Addr) (n c : Nat) (ys : List PairV) (hT : TabW H w0 w t g b F d T) (hOk : T.Ok) (hdb : d.Bytes) (hw : d.written.length ≤ 600000) (hX : PairsIn w A n ys) (hnc : n ≤ c) (hn : n ≤ 1000000) (hs : psize (ys.map PairV.d) ≤ 10000000) (hH : ∀ i, H i → i < w.heap.size) :
  Calls Tryz.prog 10 #[.pointer (some ⟨t, 0, none⟩), .slice A n c] w (TabPost H w0 w t g b F (applyT d T (ys.map PairV.d))) := by
 obtain ⟨A1, k1, c1, xs, hG⟩ := hT
 have HH := hide hH
 have HT := hide hG
 have OK := hide hOk
 have HDB := hide hdb
 have HW := hide hw
 have HX := hide hX
 have HNC := hide hnc
 have HS := hide hs
 have HN := hide hn
 have n9 : (n : Int) ≤ 1000000 := by omega
 have n0 : (0 : Int) ≤ (n : Int) := by omega
 have hby := hide (PBytes_any w A n c ys hX (by omega) (by omega))
 have HSM := hide (psize_small hX (by omega))
 obtain ⟨L, hL⟩ : ∃ L, L = ys.map PairV.d := ⟨_, rfl⟩
 have HL := hide hL
 have HLN := hide (show L.length = n by rw [hL, List.length_map, hX.1])
 rw [← hL] at hby HS ⊢
 have AQ := hide (show applyT d T L = if T.log.ready = false then (d, T, 141) else if (tbytes L).2 ≠ 0 ∨ L = [] then (d, T, (tbytes L).2) else if fitsB d (tbytes (mergeD T.pairs L)).1.length = false then (d, T, 142) else ((keepL d T.log (tbytes L).1 (tbytes (mergeD T.pairs L)).1).1, ⟨(keepL d T.log (tbytes L).1 (tbytes (mergeD T.pairs L)).1).2.1, if (keepL d T.log (tbytes L).1 (tbytes (mergeD T.pairs L)).1).2.2 = 0 then mergeD T.pairs L else T.pairs⟩, (keepL d T.log (tbytes L).1 (tbytes (mergeD T.pairs L)).1).2.2) from rfl)
 have c0 := HT.out.cells.1
 have c2 := HT.out.cells.2.2
 clear hG hOk hdb hw hX hs hn hL hnc hH
 cases hr : T.log.ready with
 | false =>
  have Q := hide (show applyT d T L = (d, T, 141) by rw [AQ.out, if_pos hr])
  have hrd := hide (Ready_any w g b T.log HT.out.log.log)
  rw [hr] at hrd
  clear hr
  go_enter Tryz.func10, Tryz.ntmps10
  go_wp2_with fail
  refine hrd.out.mono ?_
  rintro e wz ⟨rfl, rfl⟩
  go_wp2_with fail
  go_ret
  exact tab_same ⟨A1, k1, c1, xs, HT.out⟩ (Below.refl _ _) Q.out rfl
 | true =>
  have hrd := hide (Ready_any w g b T.log HT.out.log.log)
  rw [hr] at hrd
  have Q1 := hide (show applyT d T L = if (tbytes L).2 ≠ 0 ∨ L = [] then (d, T, (tbytes L).2) else if fitsB d (tbytes (mergeD T.pairs L)).1.length = false then (d, T, 142) else ((keepL d T.log (tbytes L).1 (tbytes (mergeD T.pairs L)).1).1, ⟨(keepL d T.log (tbytes L).1 (tbytes (mergeD T.pairs L)).1).2.1, if (keepL d T.log (tbytes L).1 (tbytes (mergeD T.pairs L)).1).2.2 = 0 then mergeD T.pairs L else T.pairs⟩, (keepL d T.log (tbytes L).1 (tbytes (mergeD T.pairs L)).1).2.2) by
   rw [AQ.out, if_neg (by rw [hr]; decide)])
  clear hr AQ
  obtain ⟨X, er, hX⟩ : ∃ X er, tbytes L = (X, er) := ⟨_, _, rfl⟩
  have HTB := hide hX
  rw [hX] at hby Q1
  simp only at Q1
  clear hX
  go_enter Tryz.func10, Tryz.ntmps10
  go_wp2_with fail
  refine hrd.out.mono ?_
  rintro e wz ⟨rfl, rfl⟩
  clear hrd
  go_wp2_with fail
  refine hby.out.mono ?_
  rintro e w2 ⟨A2, m2, c2', rfl, t2, f2⟩
  have T2 := hide t2
  have F2 := hide f2
  have B2 := hide t2.below
  have H2 := hide (HT.out.under t2.below)
  have c02 := H2.out.cells.1
  have c22 := H2.out.cells.2.2
  clear t2 f2 hby c0 c2
  simp only
  by_cases h0 : er = 0
  ·subst h0
   have q0 : ((0 : Int) != 0) = false := rfl
   by_cases hn0 : n = 0
   ·subst hn0
    have Q := hide (show applyT d T L = (d, T, 0) by
     rw [Q1.out, if_pos (.inr (List.eq_nil_of_length_eq_zero HLN.out))])
    go_wp2_with fail
    go_ret
    exact tab_same ⟨A1, k1, c1, xs, H2.out⟩ B2.out Q.out rfl
   ·have qn : ((n : Int) == 0) = false := by simp; omega
    have HNZ := hide (show L ≠ [] from fun e => hn0 (by rw [← HLN.out, e]; rfl))
    have Q2 := hide (show applyT d T L = if fitsB d (tbytes (mergeD T.pairs L)).1.length = false then (d, T, 142) else ((keepL d T.log X (tbytes (mergeD T.pairs L)).1).1, ⟨(keepL d T.log X (tbytes (mergeD T.pairs L)).1).2.1, if (keepL d T.log X (tbytes (mergeD T.pairs L)).1).2.2 = 0 then mergeD T.pairs L else T.pairs⟩, (keepL d T.log X (tbytes (mergeD T.pairs L)).1).2.2) by
     rw [Q1.out, if_neg]
     rintro (h9 | h9)
     ·exact h9 rfl
     ·exact HNZ.out h9)
    have HK1 := hide (show k1 ≤ 300000 by
     have h7 := right_len OK.out.right
     have h8 := OK.out.size
     have h9 := congrArg List.length HT.out.data
     rw [List.length_map, HT.out.keep.in_.1] at h9
     omega)
    clear hn0 Q1
    go_wp2_with fail
    refine (PMerge_any w2 A1 k1 c1 xs A n c ys H2.out.keep.in_ (HX.out.below' B2.out) H2.out.cap HNC.out (by have := HK1.out; omega) (by have := HN.out; omega) (right_small H2.out.keep.in_ (by rw [H2.out.data]; exact OK.out.right)) HSM.out).mono ?_
    rintro e w3 ⟨A6, k6, c6, us, rfl, hud, hrow, b3⟩
    rw [H2.out.data, ← HL.out] at hud
    have HUD := hide hud
    have HROW := hide hrow
    have B3 := hide b3
    have H3 := hide (H2.out.under b3)
    have HK6 := hide (show k6 ≤ 2000000 by
     have h6 := merge_len T.pairs L
     have h7 := congrArg List.length hud
     rw [List.length_map, hrow.len] at h7
     have h8 := HLN.out
     have h9 := congrArg List.length HT.out.data
     rw [List.length_map, HT.out.keep.in_.1] at h9
     have := HK1.out; have := HN.out
     omega)
    have HPS := hide (show psize (mergeD T.pairs L) ≤ 20000000 by
     have h6 := merge_size T.pairs L
     have h7 := OK.out.size
     have h8 := HS.out
     omega)
    clear c02 c22 hud hrow b3
    have hby := hide (PBytes_any w3 A6 k6 c6 us HROW.out.in_ (by have := HK6.out; omega) (by rw [HUD.out]; have := HPS.out; omega))
    rw [HUD.out] at hby
    go_wp2_with fail
    refine hby.out.mono ?_
    rintro e w4 ⟨A4, m4, c4, rfl, t4, f4⟩
    have T4 := hide t4
    have F4 := hide f4
    have B4 := hide t4.below
    have H4 := hide (H3.out.under t4.below)
    have M4 := hide (show (tbytes (mergeD T.pairs L)).1.length = m4 ∧ m4 ≤ 100000000 by
     have h5 := t4.len
     have h6 := tbytes_len (mergeD T.pairs L)
     have h7 := HPS.out
     have h8 := merge_len T.pairs L
     have h9 := congrArg List.length HT.out.data
     rw [List.length_map, HT.out.keep.in_.1] at h9
     have := HK1.out; have := HN.out; have := HLN.out
     exact ⟨h5, by omega⟩)
    have B24 := hide (Below.then_ B2.out (Below.then_ B3.out B4.out))
    have US4 := hide (show PKeep w4 (fun i => i < w2.heap.size) A6 k6 us from HROW.out.stay.under B4.out)
    have X4 := hide (show Bys w4 A2 m2 X from (T2.out.bys.below B3.out).below B4.out)
    have NX := hide (show m2 ≤ 100000000 by
     have h5 := T2.out.len
     have h6 := tbytes_len L
     have h7 := HS.out
     have h8 := HLN.out
     have h9 := HN.out
     rw [HTB.out] at h6
     have h10 : X.length ≤ 9 + psize L + 20 * L.length := h6
     omega)
    have HAP := hide (show Apart A4 m4 (fun i => F i ∨ i = g) from fun _ ad e hf => by
     have h5 := F4.out ad e
     have h6 := B3.out.size
     have h7 := H3.out.log.dev.lt
     rcases hf with hf | hf
     ·have := h7 _ hf; omega
     ·have := H3.out.log.gl; have h9 : ad.block = g := hf; omega)
    obtain ⟨W, hW⟩ : ∃ W, W = (tbytes (mergeD T.pairs L)).1 := ⟨_, rfl⟩
    have HTW := hide (show Bys w4 A4 m4 W by rw [hW]; exact t4.bys)
    rw [← hW] at Q2 M4
    have m49 : (m4 : Int) ≤ 100000000 := by have := M4.out.2; omega
    have m40 : (0 : Int) ≤ (m4 : Int) := by omega
    have hfit := hide (Fits_any w4 b F d H4.out.log.dev (m4 : Int) (by omega))
    have y0 := H4.out.cells.1
    have y1 := H4.out.cells.2.1
    have y2 := H4.out.cells.2.2
    clear t4 f4 hby hW
    simp only
    go_wp2_with fail
    refine hfit.out.mono ?_
    rintro e wz ⟨rfl, rfl⟩
    clear hfit
    rw [M4.out.1] at Q2
    cases hf : fitsB d (m4 : Int) with
    | false =>
     have Q := hide (show applyT d T L = (d, T, 142) by rw [Q2.out, if_pos hf])
     clear hf
     go_wp2_with fail
     go_ret
     exact tab_same ⟨A1, k1, c1, xs, H4.out⟩ B24.out Q.out rfl
    | true =>
     have Q3 := hide (show applyT d T L = ((keepL d T.log X W).1, ⟨(keepL d T.log X W).2.1, if (keepL d T.log X W).2.2 = 0 then mergeD T.pairs L else T.pairs⟩, (keepL d T.log X W).2.2) by rw [Q2.out, if_neg (by rw [hf]; decide)])
     have hkp := hide (keep_any w4 t g b F d T.log (.slice A1 k1 c1) A2 A4 m2 c2' m4 c4 X W H4.out.log.log H4.out.log.dev HDB.out H4.out.log.ng H4.out.nt H4.out.ne H4.out.blk X4.out HTW.out HAP.out (by have := NX.out; omega) (by have := M4.out.2; omega) OK.out.log HW.out)
     obtain ⟨d5, l5, e5, hkl⟩ : ∃ d5 l5 e5, keepL d T.log X W = (d5, l5, e5) := ⟨_, _, _, rfl⟩
     rw [hkl] at Q3 hkp
     simp only at Q3
     clear hf hkl Q2 y0 y1 y2
     go_wp2_with fail
     refine hkp.out.mono ?_
     rintro e w5 hp
     obtain ⟨he, F', HL5, hF', o5⟩ := H4.out.log.post hp
     subst he
     have L5 := hide HL5
     have FF := hide hF'
     have O5 := hide o5
     have K5 := hide (o5.blk H4.out.blk (fun hf => by
      rcases hf with hf | hf
      ·exact H4.out.nt hf
      ·exact H4.out.ne hf))
     have LT4 := hide (show (∀ i, F i → i < w2.heap.size) ∧ g < w2.heap.size ∧ t < w2.heap.size from ⟨fun i hi => H2.out.log.dev.lt i hi, H2.out.log.gl, H2.out.blk.lt⟩)
     have S24 := hide (show w2.heap.size ≤ w4.heap.size ∧ w.heap.size ≤ w2.heap.size by have := B3.out.size; have := B4.out.size; have := B2.out.size; omega)
     have NT := hide (show ¬ F' t from fun hf => by
      rcases hF' t hf with h9 | h9
      ·exact H4.out.nt h9
      ·have := LT4.out.2.2; have := S24.out; omega)
     have FW := hide (show ∀ i, F' i → F i ∨ w.heap.size ≤ i from fun i hi => by
      rcases hF' i hi with h9 | h9
      ·exact .inl h9
      ·right; have := S24.out; omega)
     have OW := hide (show Only (fun i => F i ∨ i = g ∨ i = t) w w5 from (Only.of_below B24.out _).trans o5 (fun i _ hf => by
      rcases hf with hf | hf
      ·exact .inl hf
      ·exact .inr (.inl hf)))
     clear HL5 hF' o5 hp hkp
     simp only
     by_cases h5 : e5 = 0
     ·subst h5
      have Q := hide (show applyT d T L = (d5, ⟨l5, mergeD T.pairs L⟩, 0) by rw [Q3.out, if_pos rfl])
      have c2 := K5.out.c2
      have f2 := K5.out.frozen 2
      have O6 := hide (Only.cell1 w5 t 2 (.slice A6 k6 c6))
      have L6 := hide (L5.out.turn O6.out NT.out H4.out.ne H4.out.t0)
      have K6 := hide (show Blk (w5.setCell ⟨t, 2, none⟩ (.slice A6 k6 c6)) t 62 [.pointer (some ⟨g, 0, none⟩), .pointer (some ⟨b, 0, none⟩), .slice A6 k6 c6] from K5.out.set_ 2 _)
      have US5 := hide (show PKeep w5 (fun i => F' i ∨ i = g ∨ i = t ∨ H i) A6 k6 us from US4.out.step (O5.out.mono (fun i _ hf => by
       rcases hf with hf | hf
       ·exact LT4.out.1 i hf
       ·have h9 : i = g := hf; have := LT4.out.2.1; show i < w2.heap.size; omega)) (fun i hi hf => by
       rcases hf with hf | hf | hf | hf
       ·rcases FF.out i hf with h9 | h9
        ·exact LT4.out.1 i h9
        ·omega
       ·have h9 : i = g := hf; have := LT4.out.2.1; show i < w2.heap.size; omega
       ·have h9 : i = t := hf; have := LT4.out.2.2; show i < w2.heap.size; omega
       ·have h9 := HH.out i hf; have := S24.out.2; show i < w2.heap.size; omega))
      go_wp2_with fail
      go_ret
      rw [Q.out]
      refine ⟨rfl, F', ⟨A6, k6, c6, us, L6.out, K6.out, NT.out, H4.out.ne, H4.out.t0, US5.out.step (O6.out.mono fun i _ hf => .inr (.inr (.inl hf))) (fun _ _ h => h), HUD.out, HROW.out.cap⟩, FW.out, OW.out.trans O6.out (fun i _ hf => .inr (.inr hf))⟩
     ·have q5 : (e5 != 0) = true := by simpa using h5
      have Q := hide (show applyT d T L = (d5, ⟨l5, T.pairs⟩, e5) by rw [Q3.out, if_neg h5])
      clear h5
      go_wp2_with fail
      go_ret
      rw [Q.out]
      refine ⟨rfl, F', ⟨A1, k1, c1, xs, L5.out, K5.out, NT.out, H4.out.ne, H4.out.t0, H4.out.keep.step (O5.out.mono (fun i _ hf => by
       rcases hf with hf | hf
       ·exact .inl hf
       ·exact .inr (.inl hf))) (fun i hi hf => ?_), H4.out.data, H4.out.cap⟩, FW.out, OW.out⟩
      rcases hf with hf | hf
      ·rcases FF.out i hf with h9 | h9
       ·exact .inl h9
       ·omega
      ·exact .inr hf
  ·have q0 : (er != 0) = true := by simpa using h0
   have Q := hide (show applyT d T L = (d, T, er) by rw [Q1.out, if_pos (.inl h0)])
   clear h0
   go_wp2_with fail
   go_ret
   exact tab_same ⟨A1, k1, c1, xs, H2.out⟩ B2.out Q.out rfl
end Go.Proofs.YtjnpkcabkccaoaaGreat
namespace Go.Proofs.YtjnpkcabkccaoaaGreat
open Go.RowKit Go.WideShapes Go.ChangeShapes Go.ChangeAt

section
variable {H : Type} {enc : TypeId × Value → H} {P : Program}
theorem trodAll_stays (hl : laidOutB P = true) {W W' : World} (hb : Below W.heap.size W W') (sp : Nat → Bool) : ∀ (ts : List TypeId) (vs : List Value) (ds : List (DataW H)) (ps : List MemPlace),
  (∀ t ∈ ts, P.readableRec t = true ∧ t < P.types.size) → DataW.TrodAll enc P W 0 (fun _ => true) true ts vs ds ps → (∀ x ∈ ps, x.block < W.heap.size) → (∀ x ∈ ps, sp x.block = true) → DataW.TrodAll enc P W' 0 sp true ts vs ds ps
 | [], vs, ds, ps, _, h, _, _ => by
  obtain ⟨rfl, rfl, rfl⟩ := trodAll_nil h
  exact trodAll_mk0
 | t :: ts, vs, ds, ps, hr, h, hlt, hsp => by
  obtain ⟨v0, vs0, d0, ds0, p0, q0, rfl, rfl, rfl, h0, r0⟩ := trodAll_cons h
  obtain ⟨h1, h2⟩ := hr t (by simp)
  exact trodAll_cons_mk (WideElems.Trod_stays hl h1 h2 h0 (fun x hx => hb.same (hlt x (by simp [hx]))) (fun x hx => hsp x (by simp [hx])))
   (trodAll_stays hl hb sp ts vs0 ds0 q0 (fun t ht => hr t (by simp [ht])) r0 (fun x hx => hlt x (by simp [hx])) (fun x hx => hsp x (by simp [hx])))
theorem law_post {f : Func} {s : ChangeSpec} {W W' : World} {args : Array Value} {ds gs : List (DataW H)} {before : List MemPlace} (tb : TypeId)
  (hl : laidOutB P = true) (hr : ∀ t ∈ f.params.toList, P.readableRec t = true ∧ t < P.types.size) (hvars : s.vars = [])
  (hs : ∀ ds : List (DataW H), ds.length = f.params.toList.length → s.fn H ds = { results := [.lit (.bool true)], args := ds }) (hres : f.resultTypes = #[tb]) (htb : P.underlying tb = some .bool)
  (hW : DataW.Whole enc P f.params.toList s.vars false W args.toList ds gs before) (hb : Below W.heap.size W W') :
  s.post enc P f false true false false W args (.bool true) W' := by
 have hW' := hW
 obtain ⟨p, q, hA, hV, rfl, hfz, hnd⟩ := hW
 rw [hvars] at hV
 obtain ⟨rfl, rfl⟩ := trodVars_none hV
 have hlen : ds.length = f.params.toList.length := (trodAll_length hA).2
 have e := hs (ds ++ []) (by simpa using hlen)
 simp only [List.append_nil] at e hW'
 refine post_of_below (pa := p) (pv := []) hW' ?_ ?_ ?_ (by simp) hb ?_
 ·intro b sp hd
  simp only [List.append_nil, e, hres]
  exact trodAll_cons_mk (shut_bool htb _) trodAll_mk0
 ·intro sp hsp
  simp only [List.append_nil, e]
  exact trodAll_stays hl hb sp _ _ _ _ hr hA (fun x hx => hW'.lt x hx) hsp
 ·intro sp hsp
  rw [hvars]
  simp only [List.append_nil, e]
  rfl
 ·exact ok_one hres rfl (okWide_bool_mk htb _)

theorem addr_plain {w : World} {a : Addr} {v : Value} (h : w.cell? (a.add 0) = some v) : a = ⟨a.block, a.off, none⟩ := by
 have h1 : w.cell? a = some v := by simpa [Addr.add] using h
 have := World.cell?_spot h1
 cases a
 simp_all
section
variable {W : World} {fuel : Nat} {V : Value} {x : DataW H × List MemPlace} {t e : TypeId}
theorem bys_of_cells (ht : P.underlying t = some (.slice e)) (he : P.underlying e = some (.int .u8)) (hc : P.cellsOf e = 1) (h : DataW.trod enc P W 0 (fun _ => true) true fuel t [V] = some x) :
  ∃ (A : Option Addr) (n c : Nat) (bs : List Int), V = .slice A n c ∧ Bys W A n bs ∧ n ≤ c ∧ c ≤ maxLen := by
 rcases open_ints ht he hc h with ⟨hcs, _⟩ | ⟨a, len, cap, zs, hcs, _, hl, hm, hz, _, hcell, hwf⟩
 ·injection hcs with hv
  exact ⟨none, 0, 0, [], hv, Bys.nil _ _, Nat.le_refl _, by simp [maxLen]⟩
 ·injection hcs with hv
  simp only [if_true] at hz
  refine ⟨some a, len, cap, zs.take len, hv, ⟨by simp; omega, fun v hv => ?_, fun hn => ?_⟩, hl, hm⟩
  ·have := hwf v (List.mem_of_mem_take hv)
   simp [Lit.wf, IntKind.min, IntKind.max, IntKind.signed, IntKind.bits] at this
   omega
  ·have h0 := hcell 0 (by omega)
   have ha := addr_plain h0
   refine ⟨a.block, a.off, by rw [← ha], fun j v hv => ?_⟩
   rw [List.getElem?_take] at hv
   split at hv
   ·rename_i hj
    have := hcell j (by omega)
    rw [ha, Addr.add_mid] at this
    rw [this]
    simp [List.getD, hv]
   ·cases hv
theorem rows_of_cells (ht : P.underlying t = some (.slice e)) (s : Nat) (hs : P.cellsOf e = s) (h0 : 0 < s) (h : DataW.trod enc P W 0 (fun _ => true) true fuel t [V] = some x) :
  ∃ (A : Option Addr) (n c : Nat), V = .slice A n c ∧ n ≤ c ∧ c ≤ maxLen ∧ (0 < n → ∃ b off : Nat, A = some ⟨b, off, none⟩ ∧
   ∀ i, i < n → ∃ (cs' : List Value) (m : Nat) (y : DataW H × List MemPlace), cs'.length = s ∧ (∀ (j : Nat) (v : Value), cs'[j]? = some v → W.cell? ⟨b, off + i * s + j, none⟩ = some v) ∧ DataW.trod enc P W 0 (fun _ => true) true m e cs' = some y) := by
 rcases Go.Deep.open_slice ht h with ⟨hcs, _⟩ | ⟨a, len, cap, m, n, D, Pl, hcs, _, hl, hm, hmm, _, hi⟩
 ·injection hcs with hv
  exact ⟨none, 0, 0, hv, Nat.le_refl _, by simp [maxLen], fun h => absurd h (by omega)⟩
 ·injection hcs with hv
  simp only [if_true] at hmm
  subst hmm
  refine ⟨some a, len, m, hv, hl, hm, fun hn => ?_⟩
  rw [hs] at hi
  have ha : a = ⟨a.block, a.off, none⟩ := by
   obtain ⟨cs', hc, _⟩ := hi 0 (by omega)
   obtain ⟨_, hlen, hcell⟩ := World.cells?_some hc
   have := hcell 0 h0
   rw [Nat.zero_mul] at this
   have e0 : (a.add 0).add 0 = a.add 0 := by simp [Addr.add]
   rw [e0, List.getElem?_eq_getElem (by omega)] at this
   exact addr_plain this
  refine ⟨a.block, a.off, by rw [← ha], fun i hin => ?_⟩
  obtain ⟨cs', hc, ht'⟩ := hi i (by omega)
  obtain ⟨_, hlen, hcell⟩ := World.cells?_some hc
  refine ⟨cs', n, _, hlen, fun j v hv => ?_, ht'⟩
  have hj : j < cs'.length := (List.getElem?_eq_some_iff.1 hv).1
  have := hcell j (by omega)
  rw [ha, Addr.add_mid, Addr.add_mid] at this
  rw [this, hv]
theorem int_of_cells {k : IntKind} (ht : P.underlying t = some (.int k)) (h : DataW.trod enc P W 0 (fun _ => true) true fuel t [V] = some x) : ∃ n, V = .int k n ∧ (Lit.int k n).wf = true := by
 obtain ⟨n, hv, _, hw⟩ := DataW.trod_int ht h
 injection hv with hv
 exact ⟨n, hv, hw⟩
theorem wf64 {n : Int} (h : (Lit.int .i64 n).wf = true) : -9223372036854775808 ≤ n ∧ n ≤ 9223372036854775807 := by
 simp [Lit.wf, IntKind.min, IntKind.max, IntKind.signed, IntKind.bits] at h
 omega
theorem one_field {fs : Array Field} {xs : List (DataW H × List MemPlace)} {cs : List Value} {n : Nat} (hg : ∀ (i : Nat) (f : Field), fs[i]? = some f → DataW.trod enc P W 0 (fun _ => true) true n f.type ((cs.drop f.offset).take (P.cellsOf f.type)) = xs[i]?)
  (hlen : xs.length = fs.size) (i : Nat) (f : Field) (c : Value) (hi : fs[i]? = some f) (hc : P.cellsOf f.type = 1) (hci : cs[f.offset]? = some c) : ∃ y, DataW.trod enc P W 0 (fun _ => true) true n f.type [c] = some y := by
 have h1 := hg i f hi
 rw [hc] at h1
 have hil : i < fs.size := (Array.getElem?_eq_some_iff.1 hi).1
 rw [List.getElem?_eq_getElem (by omega)] at h1
 have hl : f.offset < cs.length := (List.getElem?_eq_some_iff.1 hci).1
 rw [List.drop_eq_getElem_cons hl] at h1
 rw [List.getElem?_eq_getElem hl] at hci
 injection hci with hci
 subst hci
 exact ⟨_, h1⟩
theorem okWide_array {r : Reach} {b0 n : Nat} {v : Value} (ht : P.underlying t = some (.array n e)) (h : Value.okWide P W r b0 t v) : ∃ cs, v = .agg cs ∧ cs.size = P.cellsOf t := by
 simp only [Value.okWide, ht] at h
 obtain ⟨cs, h1, h2, _⟩ := h
 exact ⟨cs, h1, h2⟩
theorem two_of_array {x0 x1 : Value} (ht : P.underlying t = some (.array 2 e)) (hc : P.cellsOf e = 1) (h : DataW.trod enc P W 0 (fun _ => true) true fuel t [x0, x1] = some x) :
  ∃ (m : Nat) (y0 y1 : DataW H × List MemPlace), DataW.trod enc P W 0 (fun _ => true) true m e [x0] = some y0 ∧ DataW.trod enc P W 0 (fun _ => true) true m e [x1] = some y1 := by
 obtain ⟨xs, m, _, _, _, hlen, hg⟩ := DataW.trod_array ht h
 have h0 := hg 0 (by decide)
 have h1 := hg 1 (by decide)
 rw [hc] at h0 h1
 rw [List.getElem?_eq_getElem (by omega)] at h0 h1
 exact ⟨m, _, _, h0, h1⟩
end
end
end Go.Proofs.YtjnpkcabkccaoaaGreat
