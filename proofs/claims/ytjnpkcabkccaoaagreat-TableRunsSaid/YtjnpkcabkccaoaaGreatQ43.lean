/- Lemmas and walks for TableRuns, packed. -/
import Derived.Test.YtjnpkcabkccaoaaGreatQ41
set_option maxRecDepth 100000
set_option maxHeartbeats 16000000
namespace Go.Proofs.YtjnpkcabkccaoaaGreat
open Go.RowKit
section
def RMergePost (w : World) (L : List PairD) (xs ys : List PairV) (e : Ending) (w' : World) : Prop :=
 ∃ (g k c : Nat) (zs : List PairV), e = .returned (.slice (some ⟨g, 0, none⟩) k c) ∧ zs.map PairV.d = L ∧ RRow w w' g k c zs ∧ ∀ z ∈ zs, z ∈ xs ∨ z ∈ ys
theorem RRow.app {w0 w w' : World} {g n c : Nat} {zs : List PairV} (h : RRow w0 w g n c zs) {x : PairV} {A' : Option Addr} {c' : Nat}
  (q1 : w'.ownsRow w0.heap.size 59 3 (.slice A' (n + 1) c') (n + 1) (zs.flatMap PairV.cells ++ x.cells)) (q2 : n + 1 ≤ c') (q4 : Only (fun i => (Value.slice (some ⟨g, 0, none⟩) n c).ownBlock = some i) w w') :
  ∃ g', A' = some ⟨g', 0, none⟩ ∧ RRow w0 w' g' (n + 1) c' (zs ++ [x]) := by
 obtain ⟨g', hg'⟩ : ∃ g', A' = some ⟨g', 0, none⟩ := by
  rcases q1.2 with ⟨_, h0⟩ | ⟨g9, cap, cur, e, _⟩
  ·omega
  ·injection e with e1 _ _
   exact ⟨g9, e1⟩
 subst hg'
 refine ⟨g', rfl, ⟨by rw [List.length_append, h.len]; rfl, q2, by rw [List.flatMap_append]; simpa using q1, ?_⟩⟩
 exact h.below.trans (q4.below h.below.size (fun i hi e => by have := (h.row.lt i e).1; omega))
theorem RRow.empty (w : World) : RRow w (w.alloc (.cells #[] 59)) w.heap.size 0 0 [] :=
 ⟨rfl, Nat.le_refl _, World.ownsRow_made w #[] 0 (Nat.le_refl _) (by unfold maxLen; omega) rfl, below_alloc (Below.refl _ _) _⟩
theorem own_base {w : World} {base lo k n : Nat} {e : TypeId} {v : Value} {cs : List Value} (h : w.ownsRow base e k v n cs) (hl : lo ≤ base) : w.ownsRow lo e k v n cs := by
 refine ⟨h.1, ?_⟩
 rcases h.2 with h0 | ⟨g, cap, cur, h1, h2, h3⟩
 ·exact .inl h0
 ·exact .inr ⟨g, cap, cur, h1, Nat.le_trans hl h2, h3⟩
theorem step_none {w : World} {ops : Array Oper} {o : Oper} {a : Act} {K : Act → World → Prop} {Q : Exit → Act → World → Prop} {E : Prop} (hgd : o.guard = none) (d : Nat) (hd : o.dst = some d) (s x : Operand)
  (ho : o.op = .call { callee := .builtin .append, args := #[s, x], argTypes := #[37, 37] })
  (A : Option Addr) (n c : Nat) (hc : n ≤ c) (hs : a.eval s = .slice A n c) (B : Option Addr) (q : Nat) (hx : a.eval x = .slice B 0 q) (h : K (a.put (some d) (.slice A n c)) w) :
  if Region.wanted o (yielded ops a.tmps) = true then Oper.wp Tryz.prog o a w K Q else E := by
 have hw : Region.wanted o (yielded ops a.tmps) = true := by simp [Region.wanted, hgd]
 rw [if_pos hw]
 rw [← hd] at h
 have hi := pr_infoR
 obtain ⟨i, hi1⟩ : ∃ i, Tryz.prog.info? 59 = some i := by
  cases hq : Tryz.prog.info? 59 with
  | none => rw [hq] at hi; cases hi
  | some i => exact ⟨i, rfl⟩
 have hrun := run_append_none (P := Tryz.prog) w 37 o.type 59 i Tryz.underlying37 hi1 A B n c q hc
 unfold Oper.wp execOp
 simp only [ho, resolve, invoke, builtin, Sem.run_bind, Sem.run_pure, Result.andThen_ok, List.map_toArray, List.map_cons, List.map_nil, hs, hx, hrun]
 exact h
def notIn (C : List PairD) (x : PairD) : Bool := C.all fun c => decide (c.key ≠ x.key)
theorem notIn_step {C : List PairD} {i : Nat} {c : PairD} (x : PairD) (h : C[i]? = some c) : notIn (C.take (i + 1)) x = (notIn (C.take i) x && decide (c.key ≠ x.key)) := by
 rw [List.take_add_one, h, notIn, List.all_append]
 simp [notIn]
attribute [local go_sem ↓] loadPr_fold mkPrs1_fold
theorem refMergeP_any (w : World) (A B : Option Addr) (n c m d : Nat) (xs ys : List PairV) (hX : PairsIn w A n xs) (hY : PairsIn w B m ys) (hn : n ≤ 100000000000) (hm : m ≤ 100000000000) :
  Calls Tryz.prog 33 #[.slice A n c, .slice B m d] w (RMergePost w (refMergeD (xs.map PairV.d) (ys.map PairV.d)) xs ys) := by
 have HX := hide hX
 have HY := hide hY
 have HN := hide hn
 have HM := hide hm
 have n9 : (n : Int) ≤ 100000000000 := by omega
 have m9 : (m : Int) ≤ 100000000000 := by omega
 obtain ⟨L, hL⟩ : ∃ L, L = xs.map PairV.d := ⟨_, rfl⟩
 obtain ⟨C, hC⟩ : ∃ C, C = ys.map PairV.d := ⟨_, rfl⟩
 have HL := hide hL
 have HC := hide hC
 rw [← hL, ← hC]
 have LL := hide (show L.length = n by rw [hL, List.length_map, hX.1])
 have LC := hide (show C.length = m by rw [hC, List.length_map, hY.1])
 obtain ⟨w0, hw0⟩ : ∃ z, z = w.alloc (.cells #[] 59) := ⟨_, rfl⟩
 have R0 := hide (show RRow w w0 w.heap.size 0 0 [] by rw [hw0]; exact RRow.empty w)
 clear hL hC hX hY hn hm
 go_enter Tryz.func33, Tryz.ntmps33
 go_wp2_with fail
 rw [← hw0]
 clear hw0
 go_loopw [5, 18] (fun v i wr => ∃ (j g k c4 : Nat) (zs : List PairV), j ≤ n ∧ i = .int .i64 (j : Int) ∧ v = .slice (some ⟨g, 0, none⟩) k c4 ∧ RRow w wr g k c4 zs ∧ zs.map PairV.d = keptD (L.take j) C ∧ (∀ z ∈ zs, z ∈ xs ∨ z ∈ ys) ∧ k ≤ j) (fun _ i _ => n - (intOf i).toNat)
 case atStart => exact ⟨0, w.heap.size, 0, 0, [], Nat.zero_le _, rfl, rfl, R0.out, rfl, by simp, Nat.le_refl _⟩
 case round =>
  clear R0
  obtain ⟨j, g, k, c4, zs, hj, rfl, rfl, hr, hz, hmem, hkj⟩ := hrel
  obtain ⟨wo, rfl⟩ : ∃ wo : World, wo = wr := ⟨_, rfl⟩
  have HR := hide hr
  have HZ := hide hz
  have HMEM := hide hmem
  have HKJ := hide hkj
  have XR := hide (HX.out.below' hr.below)
  have YR := hide (HY.out.below' hr.below)
  clear hr hz hmem hkj
  by_cases hlt : j < n
  ·obtain ⟨xb, xo, hxa, hxr⟩ := XR.out.2.2 (by omega)
   subst hxa
   obtain ⟨x, hx⟩ : ∃ x, xs[j]? = some x := ⟨_, List.getElem?_eq_getElem (by rw [XR.out.1]; exact hlt)⟩
   have HXI := hide hx
   have XF := hide (XR.out.2.1 x (List.mem_of_getElem? hx))
   have hld := loadPr_run wo xb (xo + j * 3) x (hxr j x hx)
   have HLX := hide (show L[j]? = some x.d by rw [HL.out]; exact pmap_get hx)
   have HLT := hide hlt
   have j0 : (0 : Int) ≤ (j : Int) := by omega
   have j1 : (j : Int) < (n : Int) := by omega
   clear hx hxr hlt hj
   have tokA : True := trivial
   have tokB : True := trivial
   go_wp2_with (first
    | (have _t := tokA; clear _t tokA; refine wpList_alloc_agg rfl 59 rfl zeroPr zeroPr_info ?_; simp only [pU])
    | (have _t := tokB; clear _t tokB; refine pr_store rfl _ _ rfl wo rfl (by rfl) x (by rfl) ?_; intro w5 b5 s5 k5; have B5 := hide b5; have K5 := hide k5; have S5 := hide s5; clear b5 s5 k5 hld; simp only [Act.put]))
   have XF5 := hide (XF.out.below B5.out)
   obtain ⟨SX, hSX⟩ : ∃ S, S = ba x.key := ⟨_, rfl⟩
   have HSX := hide hSX
   clear hSX
   go_loopw [8, 24] (fun v i wr => ∃ (q : Nat), q ≤ m ∧ i = .int .i64 (q : Int) ∧ v = .bool (notIn (C.take q) x.d) ∧ Below w5.heap.size w5 wr) (fun _ i _ => m - (intOf i).toNat)
   case atStart => exact ⟨0, Nat.zero_le _, rfl, rfl, Below.refl _ _⟩
   case round =>
    obtain ⟨q, hq, rfl, rfl, hb⟩ := hrel
    have HB := hide hb
    have YQ := hide (YR.out.below' (Below.then_ B5.out hb))
    have KQ := hide (K5.out.under hb)
    have XQ := hide (XF5.out.below hb)
    clear hb
    by_cases hqm : q < m
    ·obtain ⟨yb, yo, hya, hyr⟩ := YQ.out.2.2 (by omega)
     subst hya
     obtain ⟨y, hy⟩ : ∃ y, ys[q]? = some y := ⟨_, List.getElem?_eq_getElem (by rw [YQ.out.1]; exact hqm)⟩
     have YF := hide (YQ.out.2.1 y (List.mem_of_getElem? hy))
     have hld := loadPr_run wr yb (yo + q * 3) y (hyr q y hy)
     have HNI := hide (notIn_step x.d (show C[q]? = some y.d by rw [HC.out]; exact pmap_get hy))
     have HQM := hide hqm
     have q0 : (0 : Int) ≤ (q : Int) := by omega
     have q1 : (q : Int) < (m : Int) := by omega
     clear hy hyr hqm hq
     obtain ⟨V, hV⟩ : ∃ V, V = notIn (C.take q) x.d := ⟨_, rfl⟩
     rw [← hV] at HNI ⊢
     clear hV
     cases V with
     | false =>
      have HE := hide (show notIn (C.take (q + 1)) x.d = false by rw [HNI.out]; rfl)
      have tokA : True := trivial
      have tokB : True := trivial
      go_wp2_with (first
       | (have _t := tokA; clear _t tokA; refine wpList_alloc_agg rfl 59 rfl zeroPr zeroPr_info ?_; simp only [pU])
       | (have _t := tokB; clear _t tokB; refine pr_store rfl _ _ rfl wr rfl (by rfl) y (by rfl) ?_; intro w6 bz sz kz; have B6 := hide bz; clear bz sz kz hld; simp only [Act.put]))
      exact ⟨⟨q + 1, by have := HQM.out; omega, by go_num, by rw [HE.out], Below.then_ HB.out B6.out⟩, by have := HQM.out; simp [intOf]; omega⟩
     | true =>
      by_cases hk : y.key = x.key
      ·have HE := hide (show notIn (C.take (q + 1)) x.d = false by rw [HNI.out, show y.d.key = x.d.key from hk]; simp)
       have HSY := hide (show SX = ba y.key by rw [HSX.out, hk])
       clear hk
       have tokA : True := trivial
       have tokB : True := trivial
       go_wp2_with (first
        | (have _t := tokA; clear _t tokA; refine wpList_alloc_agg rfl 59 rfl zeroPr zeroPr_info ?_; simp only [pU])
        | (have _t := tokB; clear _t tokB; refine pr_store rfl _ _ rfl wr rfl (by rfl) y (by rfl) ?_; intro w6 bz sz kz; have B6 := hide bz; have x0 := (KQ.out.under bz).c0; have sx := run_str w6 x.kA x.kN x.kC x.key (XQ.out.key.below bz); rw [← HSX.out] at sx; have y0 := kz.c0; have sy := run_str w6 y.kA y.kN y.kC y.key (YF.out.key.below bz); rw [← HSY.out] at sy; clear bz sz kz hld; simp only [Act.put]))
       exact ⟨⟨q + 1, by have := HQM.out; omega, by go_num, by rw [HE.out], Below.then_ HB.out B6.out⟩, by have := HQM.out; simp [intOf]; omega⟩
      ·have HE := hide (show notIn (C.take (q + 1)) x.d = true by rw [HNI.out, Bool.true_and]; exact decide_eq_true hk)
       obtain ⟨SY, hSY⟩ : ∃ S, S = ba y.key := ⟨_, rfl⟩
       have HSY := hide hSY
       have hne : SY.toList ≠ SX.toList := by rw [hSY, HSX.out]; exact ba_ne YF.out.key.2.1 XQ.out.key.2.1 hk
       have hbe : (SY.toList == SX.toList) = false := by simpa using hne
       clear hk hSY
       have tokA : True := trivial
       have tokB : True := trivial
       go_wp2_with (first
        | (have _t := tokA; clear _t tokA; refine wpList_alloc_agg rfl 59 rfl zeroPr zeroPr_info ?_; simp only [pU])
        | (have _t := tokB; clear _t tokB; refine pr_store rfl _ _ rfl wr rfl (by rfl) y (by rfl) ?_; intro w6 bz sz kz; have B6 := hide bz; have x0 := (KQ.out.under bz).c0; have sx := run_str w6 x.kA x.kN x.kC x.key (XQ.out.key.below bz); rw [← HSX.out] at sx; have y0 := kz.c0; have sy := run_str w6 y.kA y.kN y.kC y.key (YF.out.key.below bz); rw [← HSY.out] at sy; clear bz sz kz hld; simp only [Act.put]))
       exact ⟨⟨q + 1, by have := HQM.out; omega, by go_num, by rw [HE.out], Below.then_ HB.out B6.out⟩, by have := HQM.out; simp [intOf]; omega⟩
    ·have HQ := hide (show q = m by omega)
     have q1 : ¬ (q : Int) < (m : Int) := by omega
     have HTK := hide (show C.take q = C from List.take_of_length_le (by rw [LC.out, HQ.out]; exact Nat.le_refl _))
     have HKS := hide (kept_step (C := C) HLX.out)
     rw [HTK.out]
     clear hqm hq
     cases hni : notIn C x.d with
     | false =>
      have HE := hide (show keptD (L.take (j + 1)) C = keptD (L.take j) C by rw [HKS.out, if_neg (by rw [show (C.all fun c => decide (c.key ≠ x.d.key)) = notIn C x.d from rfl, hni]; decide), List.append_nil])
      clear hni
      go_wp2_with fail
      exact ⟨⟨j + 1, g, k, c4, zs, by have := HLT.out; omega, by go_num, rfl, (HR.out.under B5.out).under HB.out, by rw [HE.out]; exact HZ.out, HMEM.out, by have := HKJ.out; omega⟩, by have := HLT.out; simp [intOf]; omega⟩
     | true =>
      have HE := hide (show keptD (L.take (j + 1)) C = keptD (L.take j) C ++ [x.d] by rw [HKS.out, if_pos (by rw [show (C.all fun c => decide (c.key ≠ x.d.key)) = notIn C x.d from rfl, hni])])
      have hld := loadPr_run wr wo.heap.size 0 x KQ.out.whole
      obtain ⟨wc, hwc⟩ : ∃ z, z = wr.alloc (.cells x.cells.toArray 59) := ⟨_, rfl⟩
      have hmks := mkPrs1_run wr x
      rw [← hwc] at hmks
      have Bc := hide (show Below wr.heap.size wr wc by rw [hwc]; exact below_alloc (Below.refl _ _) _)
      have NB := hide (show wc.rangeAt wr.heap.size 0 x.cells by rw [hwc]; exact (Blk.new wr 59 x.cells).whole)
      have RC := hide ((((HR.out.under B5.out).under HB.out)).under Bc.out)
      have J9 := hide (show k + 1 ≤ 200000000000 by have := HKJ.out; have := HLT.out; have := HN.out; omega)
      clear hwc hni
      go_wp2_with (at_builtin; refine wpListRow rfl 43 rfl _ _ 37 rfl 59 3 56 Tryz.underlying37 pr_infoR (by decide) w.heap.size (.slice (some ⟨g, 0, none⟩) k c4) k _ (by rfl) RC.out.row RC.out.below.size wr.heap.size 0 1 1 x.cells (by rfl) rfl NB.out (PairV.one x) (by have := J9.out; omega) (by decide) ?_; intro A9 c9 w9 q1 q2 q3 q4; obtain ⟨g9, rfl, r9⟩ := RC.out.app q1 q2 q4; have R9 := hide r9; clear q1 q2 q3 q4 hmks r9; simp only [pU])
      refine ⟨⟨j + 1, g9, k + 1, c9, zs ++ [x], by have := HLT.out; omega, by go_num, rfl, R9.out, by rw [List.map_append, HZ.out, HE.out]; rfl, fun z hz => ?_, by have := HKJ.out; omega⟩, by have := HLT.out; simp [intOf]; omega⟩
      rcases List.mem_append.1 hz with hz | hz
      ·exact HMEM.out z hz
      ·rw [List.mem_singleton.1 hz]; exact .inl (List.mem_of_getElem? HXI.out)
  ·have HJ := hide (show j = n by omega)
   have j1 : ¬ (j : Int) < (n : Int) := by omega
   have HZ2 := hide (show zs.map PairV.d = keptD L C by rw [HZ.out, List.take_of_length_le (by rw [LL.out, HJ.out]; exact Nat.le_refl _)])
   have HK1 := hide (show k ≤ n by have := HKJ.out; have := HJ.out; omega)
   clear hlt hj HZ HKJ XR
   go_wp2_with fail
   go_loopw [5, 13, 14, 47] (fun v _ _ i wr => ∃ (j g k c4 : Nat) (zs : List PairV), j ≤ m ∧ i = .int .i64 (j : Int) ∧ v = .slice (some ⟨g, 0, none⟩) k c4 ∧ RRow w wr g k c4 zs ∧ zs.map PairV.d = (C.take j).foldl addD (keptD L C) ∧ (∀ z ∈ zs, z ∈ xs ∨ z ∈ ys) ∧ k ≤ n + j) (fun _ _ _ i _ => m - (intOf i).toNat)
   case atStart => exact ⟨0, g, k, c4, zs, Nat.zero_le _, rfl, rfl, HR.out, HZ2.out, HMEM.out, by have := HK1.out; omega⟩
   case round =>
    clear HR HZ2 HMEM HK1 YR
    obtain ⟨j, g, k, c4, zs, hj, rfl, rfl, hr, hz, hmem, hkj⟩ := hrel
    obtain ⟨wo, rfl⟩ : ∃ wo : World, wo = wr := ⟨_, rfl⟩
    have HR := hide hr
    have HZ := hide hz
    have HMEM := hide hmem
    have HKJ := hide hkj
    have YR := hide (HY.out.below' hr.below)
    clear hr hz hmem hkj
    by_cases hlt : j < m
    ·obtain ⟨yb, yo, hya, hyr⟩ := YR.out.2.2 (by omega)
     subst hya
     obtain ⟨y, hy⟩ : ∃ y, ys[j]? = some y := ⟨_, List.getElem?_eq_getElem (by rw [YR.out.1]; exact hlt)⟩
     have HYI := hide hy
     have YF := hide (YR.out.2.1 y (List.mem_of_getElem? hy))
     have hld := loadPr_run wo yb (yo + j * 3) y (hyr j y hy)
     have HFS := hide (fold_step (keptD L C) (show C[j]? = some y.d by rw [HC.out]; exact pmap_get hy))
     have HLT := hide hlt
     have j0 : (0 : Int) ≤ (j : Int) := by omega
     have j1 : (j : Int) < (m : Int) := by omega
     clear hy hyr hlt hj
     cases hg : y.gone with
     | true =>
      have HE := hide (show (C.take (j + 1)).foldl addD (keptD L C) = (C.take j).foldl addD (keptD L C) by rw [HFS.out, addD, if_pos (show y.d.gone = true from hg)])
      have HG := hide hg
      clear hg
      have tokA : True := trivial
      have tokB : True := trivial
      go_wp2_with (first
       | (have _t := tokA; clear _t tokA; refine wpList_alloc_agg rfl 59 rfl zeroPr zeroPr_info ?_; simp only [pU])
       | (have _t := tokB; clear _t tokB; refine pr_store rfl _ _ rfl wo rfl (by rfl) y (by rfl) ?_; intro w5 bz sz kz; have B5 := hide bz; have K5 := hide kz; have y2 := kz.c2; rw [HG.out] at y2; clear bz sz kz hld; simp only [Act.put]))
      clear y2
      exact ⟨⟨j + 1, g, k, c4, zs, by have := HLT.out; omega, by go_num, rfl, HR.out.under B5.out, by rw [HE.out]; exact HZ.out, HMEM.out, by have := HKJ.out; omega⟩, by have := HLT.out; simp [intOf]; omega⟩
     | false =>
      have HE := hide (show (C.take (j + 1)).foldl addD (keptD L C) = insD (zs.map PairV.d) y.d by rw [HFS.out, HZ.out, addD, if_neg (by rw [show y.d.gone = false from hg]; decide)])
      have HG := hide hg
      clear hg
      have tokA : True := trivial
      have tokB : True := trivial
      go_wp2_with (first
       | (have _t := tokA; clear _t tokA; refine wpList_alloc_agg rfl 59 rfl zeroPr zeroPr_info ?_; simp only [pU])
       | (have _t := tokB; clear _t tokB; refine pr_store rfl _ _ rfl wo rfl (by rfl) y (by rfl) ?_; intro w5 bz sz kz; have B5 := hide bz; have K5 := hide kz; have y2 := kz.c2; rw [HG.out] at y2; clear bz sz kz hld; simp only [Act.put]))
      clear y2
      have R5 := hide (HR.out.under B5.out)
      have YF5 := hide (YF.out.below B5.out)
      obtain ⟨SY, hSY⟩ : ∃ S, S = ba y.key := ⟨_, rfl⟩
      have HSY := hide hSY
      have k9 : (k : Int) ≤ 200000000000 := by have := HKJ.out; have := HN.out; have := HM.out; have := HLT.out; omega
      clear hSY
      go_loopw [13] (fun i wr => ∃ a : Nat, a ≤ k ∧ i = .int .i64 (a : Int) ∧ (∀ p ∈ (zs.map PairV.d).take a, lex p.key y.key < 0) ∧ Below w5.heap.size w5 wr) (fun i _ => k - (intOf i).toNat)
      case atStart => exact ⟨0, Nat.zero_le _, rfl, by simp, Below.refl _ _⟩
      case round =>
       obtain ⟨a, ha, rfl, hall, hb⟩ := hrel
       have HB := hide hb
       have HALL := hide hall
       have HAK := hide ha
       have RQ := hide (R5.out.under hb)
       have KQ := hide (K5.out.under hb)
       have YQ := hide (YF5.out.below hb)
       have a0 : (0 : Int) ≤ (a : Int) := by omega
       clear hb hall
       by_cases hak : a < k
       ·obtain ⟨z, hz⟩ : ∃ z, zs[a]? = some z := ⟨_, List.getElem?_eq_getElem (by rw [RQ.out.len]; exact hak)⟩
        have HZI := hide hz
        have ZF := hide (show z.Fine wr by
         rcases HMEM.out z (List.mem_of_getElem? hz) with h9 | h9
         ·exact (HX.out.2.1 z h9).below RQ.out.below
         ·exact (HY.out.2.1 z h9).below RQ.out.below)
        have ZC := hide (RQ.out.at_ hz)
        obtain ⟨SZ, hSZ⟩ : ∃ S, S = ba z.key := ⟨_, rfl⟩
        have HSZ := hide hSZ
        have hls := less_ba z.key y.key ZF.out.key.2.1 YQ.out.key.2.1
        rw [← hSZ, ← HSY.out] at hls
        have HAKL := hide hak
        have a1 : (a : Int) < (k : Int) := by omega
        clear hz hSZ ha
        by_cases hlx : lex z.key y.key < 0
        ·rw [decide_eq_true hlx] at hls
         have HLX := hide hlx
         clear hlx
         go_wp2_with fail
         refine wp_region_held_drew (S := fun w' => Below wr.heap.size wr w') (by kernel_rfl) ((Below.refl _ wr).drew) (fun hSA0 => ?_)
         obtain ⟨wrd, hwA⟩ : ∃ x, x = wr.drew := ⟨_, rfl⟩
         rw [← hwA] at hSA0 ⊢
         clear hwA
         refine tq 0 rfl hSA0 ?_
         refine tq 1 rfl hSA0 ?_
         refine tq 2 rfl hSA0 ?_
         refine tq 3 rfl hSA0 ?_
         refine tq 4 rfl hSA0 ?_
         refine tq 5 rfl hSA0 ?_
         refine tq 6 rfl hSA0 ?_
         refine tq 7 rfl hSA0 ?_
         refine tq 8 rfl hSA0 ?_
         (refine tq 9 rfl hSA0 ?_ (fun w' hSw => by have z0 : w'.cell? ⟨g, a * 3, none⟩ = some (.slice z.kA z.kN z.kC) := (by have := (range_under ZC.out hSw) 0 (.slice z.kA z.kN z.kC) rfl; simpa using this); go_simp; try with_reducible rfl))
         (refine tq 10 rfl hSA0 ?_ (fun w' hSw => by have z0 := run_str w' z.kA z.kN z.kC z.key (ZF.out.key.below hSw); rw [← HSZ.out] at z0; go_simp; try with_reducible rfl))
         refine tq 11 rfl hSA0 ?_
         (refine tq 12 rfl hSA0 ?_ (fun w' hSw => by have z0 := (KQ.out.under hSw).c0; go_simp; try with_reducible rfl))
         (refine tq 13 rfl hSA0 ?_ (fun w' hSw => by have z0 := run_str w' y.kA y.kN y.kC y.key (YQ.out.key.below hSw); rw [← HSY.out] at z0; go_simp; try with_reducible rfl))
         refine tq 14 rfl hSA0 ?_
         refine tq 15 rfl hSA0 ?_
         refine wpAnyH_done (by kernel_rfl) ?_ _
         go_wp2_with fail
         refine ⟨⟨a + 1, by have := HAKL.out; omega, by go_num, fun p hp => ?_, Below.then_ HB.out hSA0⟩, by have := HAKL.out; simp [intOf]; omega⟩
         rw [List.take_add_one, pmap_get HZI.out] at hp
         rcases List.mem_append.1 hp with hp | hp
         ·exact HALL.out p hp
         ·have h9 : p = z.d := by simpa using hp
          rw [h9]; exact HLX.out
        ·rw [decide_eq_false hlx] at hls
         have HSTOP := hide (show insD (zs.map PairV.d) y.d = (zs.map PairV.d).take a ++ y.d :: (zs.map PairV.d).drop a from ins_at HALL.out (by rw [List.length_map, RQ.out.len]; omega) (.inr ⟨z.d, pmap_get HZI.out, hlx⟩))
         clear hlx
         go_wp2_with fail
         refine wp_region_held_drew (S := fun w' => Below wr.heap.size wr w') (by kernel_rfl) ((Below.refl _ wr).drew) (fun hSB0 => ?_)
         obtain ⟨wrd, hwB⟩ : ∃ x, x = wr.drew := ⟨_, rfl⟩
         rw [← hwB] at hSB0 ⊢
         clear hwB
         refine tq 0 rfl hSB0 ?_
         refine tq 1 rfl hSB0 ?_
         refine tq 2 rfl hSB0 ?_
         refine tq 3 rfl hSB0 ?_
         refine tq 4 rfl hSB0 ?_
         refine tq 5 rfl hSB0 ?_
         refine tq 6 rfl hSB0 ?_
         refine tq 7 rfl hSB0 ?_
         refine tq 8 rfl hSB0 ?_
         (refine tq 9 rfl hSB0 ?_ (fun w' hSw => by have z0 : w'.cell? ⟨g, a * 3, none⟩ = some (.slice z.kA z.kN z.kC) := (by have := (range_under ZC.out hSw) 0 (.slice z.kA z.kN z.kC) rfl; simpa using this); go_simp; try with_reducible rfl))
         (refine tq 10 rfl hSB0 ?_ (fun w' hSw => by have z0 := run_str w' z.kA z.kN z.kC z.key (ZF.out.key.below hSw); rw [← HSZ.out] at z0; go_simp; try with_reducible rfl))
         refine tq 11 rfl hSB0 ?_
         (refine tq 12 rfl hSB0 ?_ (fun w' hSw => by have z0 := (KQ.out.under hSw).c0; go_simp; try with_reducible rfl))
         (refine tq 13 rfl hSB0 ?_ (fun w' hSw => by have z0 := run_str w' y.kA y.kN y.kC y.key (YQ.out.key.below hSw); rw [← HSY.out] at z0; go_simp; try with_reducible rfl))
         refine tq 14 rfl hSB0 ?_
         refine tq 15 rfl hSB0 ?_
         refine wpAnyH_done (by kernel_rfl) ?_ _
         have BA := hide (show Below wr.heap.size wr wrd from hSB0)
         have RA := hide (RQ.out.under hSB0)
         obtain ⟨off, hs1, hs2, hnews⟩ := RA.out.from_ a HAK.out
         obtain ⟨hu1, hu2, holds⟩ := RA.out.upto a HAK.out
         have HOLD := hide holds
         have HNEW := hide hnews
         clear hnews holds
         obtain ⟨we, hwe⟩ : ∃ z, z = wrd.alloc (.cells #[] 59) := ⟨_, rfl⟩
         have BE := hide (show Below wrd.heap.size wrd we by rw [hwe]; exact below_alloc (Below.refl _ _) _)
         have OE := hide (show we.ownsRow wrd.heap.size 59 3 (.slice (some ⟨wrd.heap.size, 0, none⟩) 0 0) 0 [] by rw [hwe]; exact World.ownsRow_made wrd #[] 0 (Nat.le_refl _) (by unfold maxLen; omega) rfl)
         have GE := hide (show wrd.heap.size < we.heap.size by rw [hwe]; simp)
         have hwe' : wrd.alloc (.cells #[] 59) = we := hwe.symm
         clear hwe
         have HKC := hide (show (k - a) + a = k ∧ k ≤ 200000000000 by have := HAK.out; have := HKJ.out; have := HN.out; have := HM.out; have := HLT.out; omega)
         go_wp2_with (at_builtin; (try rw [hwe']); refine wpListRow rfl 75 rfl _ _ 37 rfl 59 3 56 Tryz.underlying37 pr_infoR (by decide) wrd.heap.size (.slice (some ⟨wrd.heap.size, 0, none⟩) 0 0) 0 [] (by rfl) OE.out (by have := GE.out; omega) g off (k - a) (c4 - a) ((zs.drop a).flatMap PairV.cells) (by rfl) (by rw [flat_cells_len, List.length_drop, RA.out.len]) (range_under HNEW.out BE.out) (flat_cells_one _) (by have := HKC.out; omega) (by decide) ?_; intro A7 c7 w7 q1 q2 q3 q4; rw [Nat.zero_add] at q1 q2 q3; rw [List.nil_append] at q1; have O7 := hide q1; have C7 := hide q2; have B7 := hide (show Below wrd.heap.size wrd w7 from BE.out.trans (q4.below BE.out.size (fun i hi e => by have h9 : wrd.heap.size = i := (by simpa [Value.ownBlock] using e); omega))); clear q1 q2 q3 q4; simp only [Nat.zero_add, Act.put, List.setIfInBounds_toArray, List.set_cons_zero, List.set_cons_succ])
         clear hwe'
         refine wp_region_held_drew (S := fun w' => Below w7.heap.size w7 w') (by kernel_rfl) ((Below.refl _ _).drew) (fun hSM0 => ?_)
         obtain ⟨w7d, hwM⟩ : ∃ x, x = w7.drew := ⟨_, rfl⟩
         rw [← hwM] at hSM0 ⊢
         have BD := hide (show Below w7.heap.size w7 w7d by rw [hwM]; exact (Below.refl _ _).drew)
         clear hwM
         refine tq 0 rfl hSM0 ?_
         refine tq 1 rfl hSM0 ?_
         refine tq 2 rfl hSM0 ?_
         (refine tq 3 rfl hSM0 ?_ (fun w' hSw => by skip; go_simp; try with_reducible rfl))
         (refine tq 4 rfl hSM0 ?_ (fun w' hSw => by have z0 := loadPr_run w' wo.heap.size 0 y (((KQ.out.under BA.out).under B7.out).under hSw).whole; go_simp; try with_reducible rfl))
         refine tq 7 rfl hSM0 ?_
         refine ry 5 rfl fun K hK => ?_
         have hmk := mkPrs1_run w7d y
         obtain ⟨wA, hwA⟩ : ∃ z, z = w7d.alloc (.cells y.cells.toArray 59) := ⟨_, rfl⟩
         rw [← hwA] at hmk
         have BA9 := hide (show Below w7d.heap.size w7d wA by rw [hwA]; exact below_alloc (Below.refl _ _) _)
         have NA := hide (show wA.rangeAt w7d.heap.size 0 y.cells by rw [hwA]; exact (Blk.new w7d 59 y.cells).whole)
         clear hwA
         go_simp
         clear hmk
         refine hK.out _ _ (Below.then_ hSM0 BA9.out) (fun hSM1 => ?_)
         clear hK K
         refine ry 6 rfl fun K hK => ?_
         refine step_full rfl 82 rfl _ _ rfl g a ((zs.take a).flatMap PairV.cells) (by rfl) (by rw [flat_cells_len, List.length_take, RA.out.len]; have := HAK.out; omega) (range_under (range_under HOLD.out B7.out) hSM1) w7d.heap.size 1 y (by rfl) NA.out (by have := HKC.out; omega) ?_
         intro g8 c8 w8 q1 q2 q3
         have O8 := hide q1
         have C8 := hide q2
         have B8 := hide (Below.then_ hSM1 q3)
         have G8 := hide (show wA.heap.size ≤ g8 from (q1.lt g8 rfl).1)
         have E8 := hide q3
         clear q1 q2 q3
         simp only [pU]
         refine hK.out _ _ (B8.out) (fun hSM2 => ?_)
         clear hK K
         refine ry 8 rfl fun K hK => ?_
         obtain ⟨g7, rfl⟩ : ∃ g7, A7 = some ⟨g7, 0, none⟩ := by
          rcases O7.out.2 with ⟨_, h0⟩ | ⟨g9, cap, cur, e, _⟩
          ·have := HAKL.out; omega
          ·injection e with e1 _ _
           exact ⟨g9, e1⟩
         have N8 := hide (show w8.rangeAt g7 0 ((zs.drop a).flatMap PairV.cells) from range_under (fun j u hu => by have h9 := O7.out.cells rfl j u hu; rwa [Addr.add_mid] at h9) B8.out)
         refine stepRow rfl 84 rfl _ _ 37 rfl 59 3 56 Tryz.underlying37 pr_infoR (by decide) wA.heap.size (.slice (some ⟨g8, 0, none⟩) (a + 1) c8) (a + 1) _ (by rfl) O8.out E8.out.size g7 0 (k - a) c7 ((zs.drop a).flatMap PairV.cells) (by rfl) (by rw [flat_cells_len, List.length_drop, RA.out.len]) N8.out (flat_cells_one _) (by have := HKC.out; omega) (by decide) ?_
         intro A9 c9 w9 q1 q2 q3 q4
         have HEN := hide (show a + 1 + (k - a) = k + 1 by have := HKC.out; omega)
         rw [HEN.out] at q1 q2 q3
         rw [HEN.out]
         obtain ⟨g9, rfl⟩ : ∃ g9, A9 = some ⟨g9, 0, none⟩ := by
          rcases q1.2 with ⟨_, h0⟩ | ⟨g9, cap, cur, e, _⟩
          ·omega
          ·injection e with e1 _ _
           exact ⟨g9, e1⟩
         have B9 := hide (show Below w7.heap.size w7 w9 from B8.out.trans (q4.below B8.out.size (fun i hi e => by have h9 : g8 = i := (by simpa [Value.ownBlock] using e); have := G8.out; have := hSM1.size; omega)))
         have R9 := hide (show RRow w w9 g9 (k + 1) c9 (zs.take a ++ y :: zs.drop a) from ⟨by rw [List.length_append, List.length_cons, List.length_take, List.length_drop, RA.out.len]; have := HKC.out; omega, q2, by
          have e9 : (zs.take a ++ y :: zs.drop a).flatMap PairV.cells = (zs.take a).flatMap PairV.cells ++ y.cells ++ (zs.drop a).flatMap PairV.cells := by simp
          rw [e9]
          exact own_base q1 (by have := RA.out.below.size; have := B7.out.size; have := hSM1.size; omega), Below.then_ RA.out.below (Below.then_ B7.out B9.out)⟩)
         clear q1 q2 q3 q4
         simp only [pU]
         refine hK.out _ _ (B9.out) (fun hSM3 => ?_)
         clear hK K
         refine tq 9 rfl hSM3 ?_
         refine wpAnyH_done (by kernel_rfl) ?_ _
         go_wp2_with fail
         refine ⟨⟨j + 1, g9, k + 1, c9, zs.take a ++ y :: zs.drop a, by have := HLT.out; omega, by go_num, rfl, R9.out, by rw [HE.out, HSTOP.out]; simp, fun z9 hz9 => ?_, by have := HKJ.out; omega⟩, by have := HLT.out; simp [intOf]; omega⟩
         rcases List.mem_append.1 hz9 with hz9 | hz9
         ·exact HMEM.out z9 (List.mem_of_mem_take hz9)
         ·rcases List.mem_cons.1 hz9 with e9 | hz9
          ·rw [e9]; exact .inr (List.mem_of_getElem? HYI.out)
          ·exact HMEM.out z9 (List.mem_of_mem_drop hz9)
       ·have hea : a = k := by omega
        have HSTOP := hide (show insD (zs.map PairV.d) y.d = (zs.map PairV.d).take a ++ y.d :: (zs.map PairV.d).drop a from ins_at HALL.out (by rw [List.length_map, RQ.out.len]; exact HAK.out) (.inl (by rw [List.length_map, RQ.out.len]; exact hea)))
        have HEA := hide hea
        have a1 : ¬ a < k := by omega
        have a2 : ¬ (a : Int) < (k : Int) := by omega
        clear ha hak hea
        go_wp2_with fail
        refine wp_region_held_drew (S := fun w' => Below wr.heap.size wr w') (by kernel_rfl) ((Below.refl _ wr).drew) (fun hSC0 => ?_)
        obtain ⟨wrd, hwC⟩ : ∃ x, x = wr.drew := ⟨_, rfl⟩
        rw [← hwC] at hSC0 ⊢
        clear hwC
        refine tq 0 rfl hSC0 ?_
        refine tq 1 rfl hSC0 ?_
        refine tq 2 rfl hSC0 ?_
        refine tq 3 rfl hSC0 ?_
        refine tq 4 rfl hSC0 ?_
        refine tm 5 rfl hSC0 ?_
        refine tm 6 rfl hSC0 ?_
        refine tm 7 rfl hSC0 ?_
        refine tm 8 rfl hSC0 ?_
        refine tm 9 rfl hSC0 ?_
        refine tm 10 rfl hSC0 ?_
        refine tm 11 rfl hSC0 ?_
        refine tm 12 rfl hSC0 ?_
        refine tm 13 rfl hSC0 ?_
        refine tm 14 rfl hSC0 ?_
        refine tq 15 rfl hSC0 ?_
        refine wpAnyH_done (by kernel_rfl) ?_ _
        have BA := hide (show Below wr.heap.size wr wrd from hSC0)
        have RA := hide (RQ.out.under hSC0)
        obtain ⟨off, hs1, hs2, hnews⟩ := RA.out.from_ a HAK.out
        obtain ⟨hu1, hu2, holds⟩ := RA.out.upto a HAK.out
        have HOLD := hide holds
        have HNEW := hide hnews
        clear hnews holds
        obtain ⟨we, hwe⟩ : ∃ z, z = wrd.alloc (.cells #[] 59) := ⟨_, rfl⟩
        have BE := hide (show Below wrd.heap.size wrd we by rw [hwe]; exact below_alloc (Below.refl _ _) _)
        have OE := hide (show we.ownsRow wrd.heap.size 59 3 (.slice (some ⟨wrd.heap.size, 0, none⟩) 0 0) 0 [] by rw [hwe]; exact World.ownsRow_made wrd #[] 0 (Nat.le_refl _) (by unfold maxLen; omega) rfl)
        have GE := hide (show wrd.heap.size < we.heap.size by rw [hwe]; simp)
        have hwe' : wrd.alloc (.cells #[] 59) = we := hwe.symm
        clear hwe
        have HKC := hide (show (k - a) + a = k ∧ k ≤ 200000000000 by have := HAK.out; have := HKJ.out; have := HN.out; have := HM.out; have := HLT.out; omega)
        go_wp2_with (at_builtin; (try rw [hwe']); refine wpListRow rfl 75 rfl _ _ 37 rfl 59 3 56 Tryz.underlying37 pr_infoR (by decide) wrd.heap.size (.slice (some ⟨wrd.heap.size, 0, none⟩) 0 0) 0 [] (by rfl) OE.out (by have := GE.out; omega) g off (k - a) (c4 - a) ((zs.drop a).flatMap PairV.cells) (by rfl) (by rw [flat_cells_len, List.length_drop, RA.out.len]) (range_under HNEW.out BE.out) (flat_cells_one _) (by have := HKC.out; omega) (by decide) ?_; intro A7 c7 w7 q1 q2 q3 q4; rw [Nat.zero_add] at q1 q2 q3; rw [List.nil_append] at q1; have O7 := hide q1; have C7 := hide q2; have B7 := hide (show Below wrd.heap.size wrd w7 from BE.out.trans (q4.below BE.out.size (fun i hi e => by have h9 : wrd.heap.size = i := (by simpa [Value.ownBlock] using e); omega))); clear q1 q2 q3 q4; simp only [Nat.zero_add, Act.put, List.setIfInBounds_toArray, List.set_cons_zero, List.set_cons_succ])
        clear hwe'
        refine wp_region_held_drew (S := fun w' => Below w7.heap.size w7 w') (by kernel_rfl) ((Below.refl _ _).drew) (fun hSM0 => ?_)
        obtain ⟨w7d, hwM⟩ : ∃ x, x = w7.drew := ⟨_, rfl⟩
        rw [← hwM] at hSM0 ⊢
        have BD := hide (show Below w7.heap.size w7 w7d by rw [hwM]; exact (Below.refl _ _).drew)
        clear hwM
        refine tq 0 rfl hSM0 ?_
        refine tq 1 rfl hSM0 ?_
        refine tq 2 rfl hSM0 ?_
        (refine tq 3 rfl hSM0 ?_ (fun w' hSw => by skip; go_simp; try with_reducible rfl))
        (refine tq 4 rfl hSM0 ?_ (fun w' hSw => by have z0 := loadPr_run w' wo.heap.size 0 y (((KQ.out.under BA.out).under B7.out).under hSw).whole; go_simp; try with_reducible rfl))
        refine tq 7 rfl hSM0 ?_
        refine ry 5 rfl fun K hK => ?_
        have hmk := mkPrs1_run w7d y
        obtain ⟨wA, hwA⟩ : ∃ z, z = w7d.alloc (.cells y.cells.toArray 59) := ⟨_, rfl⟩
        rw [← hwA] at hmk
        have BA9 := hide (show Below w7d.heap.size w7d wA by rw [hwA]; exact below_alloc (Below.refl _ _) _)
        have NA := hide (show wA.rangeAt w7d.heap.size 0 y.cells by rw [hwA]; exact (Blk.new w7d 59 y.cells).whole)
        clear hwA
        go_simp
        clear hmk
        refine hK.out _ _ (Below.then_ hSM0 BA9.out) (fun hSM1 => ?_)
        clear hK K
        refine ry 6 rfl fun K hK => ?_
        refine step_full rfl 82 rfl _ _ rfl g a ((zs.take a).flatMap PairV.cells) (by rfl) (by rw [flat_cells_len, List.length_take, RA.out.len]; have := HAK.out; omega) (range_under (range_under HOLD.out B7.out) hSM1) w7d.heap.size 1 y (by rfl) NA.out (by have := HKC.out; omega) ?_
        intro g8 c8 w8 q1 q2 q3
        have O8 := hide q1
        have C8 := hide q2
        have B8 := hide (Below.then_ hSM1 q3)
        have G8 := hide (show wA.heap.size ≤ g8 from (q1.lt g8 rfl).1)
        have E8 := hide q3
        clear q1 q2 q3
        simp only [pU]
        refine hK.out _ _ (B8.out) (fun hSM2 => ?_)
        clear hK K
        refine ry 8 rfl fun K hK => ?_
        have H0 := hide (show k - a = 0 by have := HEA.out; omega)
        have e0 := H0.out
        refine step_none rfl 84 rfl _ _ rfl (some ⟨g8, 0, none⟩) (a + 1) c8 C8.out (by rfl) A7 c7 (by rw [← e0]; rfl) ?_
        have B9 := B8
        obtain ⟨w9, hw9⟩ : ∃ z, z = w8 := ⟨_, rfl⟩
        rw [← hw9] at B9 O8 ⊢
        obtain ⟨g9, hg9⟩ : ∃ z, z = g8 := ⟨_, rfl⟩
        obtain ⟨c9, hc9⟩ : ∃ z, z = c8 := ⟨_, rfl⟩
        rw [← hg9, ← hc9]
        have HEN := hide (show a + 1 = k + 1 by have := HEA.out; omega)
        rw [HEN.out]
        have R9 := hide (show RRow w w9 g9 (k + 1) c9 (zs.take a ++ y :: zs.drop a) from ⟨by rw [List.length_append, List.length_cons, List.length_take, List.length_drop, RA.out.len]; have := HKC.out; omega, by rw [← HEN.out, hc9]; exact C8.out, by
         have e9 : (zs.take a ++ y :: zs.drop a).flatMap PairV.cells = (zs.take a).flatMap PairV.cells ++ y.cells := by rw [List.drop_of_length_le (by rw [RA.out.len]; have := HEA.out; omega)]; simp
         rw [e9, ← HEN.out, hg9, hc9]
         exact own_base O8.out (by have := RA.out.below.size; have := B7.out.size; have := hSM1.size; omega), Below.then_ RA.out.below (Below.then_ B7.out B9.out)⟩)
        clear hw9 hg9 hc9 e0
        simp only [pU]
        refine hK.out _ _ (B9.out) (fun hSM3 => ?_)
        clear hK K
        refine tq 9 rfl hSM3 ?_
        refine wpAnyH_done (by kernel_rfl) ?_ _
        go_wp2_with fail
        refine ⟨⟨j + 1, g9, k + 1, c9, zs.take a ++ y :: zs.drop a, by have := HLT.out; omega, by go_num, rfl, R9.out, by rw [HE.out, HSTOP.out]; simp, fun z9 hz9 => ?_, by have := HKJ.out; omega⟩, by have := HLT.out; simp [intOf]; omega⟩
        rcases List.mem_append.1 hz9 with hz9 | hz9
        ·exact HMEM.out z9 (List.mem_of_mem_take hz9)
        ·rcases List.mem_cons.1 hz9 with e9 | hz9
         ·rw [e9]; exact .inr (List.mem_of_getElem? HYI.out)
         ·exact HMEM.out z9 (List.mem_of_mem_drop hz9)
    ·have HJ := hide (show j = m by omega)
     have j1 : ¬ (j : Int) < (m : Int) := by omega
     clear hlt hj
     go_wp2_with fail
     go_ret
     refine ⟨g, k, c4, zs, rfl, ?_, HR.out, HMEM.out⟩
     rw [HZ.out, List.take_of_length_le (by rw [LC.out, HJ.out]; exact Nat.le_refl _)]
     rfl
end
end Go.Proofs.YtjnpkcabkccaoaaGreat
