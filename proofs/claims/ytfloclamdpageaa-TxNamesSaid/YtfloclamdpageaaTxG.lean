/-
  tx: Check.
-/
import Derived.Test.YtfloclamdpageaaTxF
namespace Go.Proofs.Ytfloclamdpageaa
open Go.RowKit

/-- Does a reference come twice? seen: those ahead. -/
def dup : List RefD → List InD → Bool
  | _, [] => false
  | seen, a :: l => seen.any (fun q => q.eqb a.ref) || dup (seen ++ [a.ref]) l
def checkT (t : TxD) : Int :=
  if t.ins.length = 0 ∨ t.outs.length = 0 ∨ 5000 < t.bytes.length then 101
  else if (sumFrom (t.outs.map (·.value)) 0).2 ≠ 0 then (sumFrom (t.outs.map (·.value)) 0).2
  else if dup [] t.ins = true then 101
  else if baseT t.ins = true then (if (t.ins.map (fun a => a.unlock.length)).headD 0 < 2 ∨ 100 < (t.ins.map (fun a => a.unlock.length)).headD 0 then 101 else 0)
  else if (t.ins.map (·.ref)).any (fun q => q.eqb nullR) = true then 101 else 0
theorem dup_step (l : List InD) (j : Nat) (a : InD) (h : l[j]? = some a) : dup ((l.take j).map (·.ref)) (l.drop j) = (((l.take j).map (·.ref)).any (fun q => q.eqb a.ref) || dup ((l.take (j + 1)).map (·.ref)) (l.drop (j + 1))) := by
  obtain ⟨h1, h2⟩ := List.getElem?_eq_some_iff.1 h
  rw [List.drop_eq_getElem_cons h1, h2, dup]
  congr 2
  rw [List.take_add_one, h]
  simp
attribute [local go_sem ↓] loadIn_fold loadRef_fold loadTx_fold eqlRef_fold neqRef_fold mkRef_fold mkTx_fold
theorem wf_count {n : Int} (h0 : 0 ≤ n) (h1 : n ≤ 1000000) : (Lit.int .i64 n).wf = true := by
  simp [Lit.wf, IntKind.min, IntKind.max, IntKind.signed, IntKind.bits]; omega
set_option maxHeartbeats 8000000 in
set_option maxRecDepth 100000 in
theorem TCheck_any (w : World) (t : TxV) (hf : t.Fine w) (hs : t.Small) :
    Calls Try.prog 43 #[.agg t.cells.toArray] w fun e w' => e = .returned (.int .i64 (checkT t.d)) ∧ Below w.heap.size w w' := by
  have T0 := Blk.new w 65 t.cells
  have hb0 : Below w.heap.size w (w.alloc (.cells t.cells.toArray 65)) := (Below.refl _ w).alloc (Nat.le_refl _) _
  have HF := hide (hf.below hb0)
  have HB0 := hide hb0
  have HS := hide hs
  have hil := hide (show t.d.ins.length = t.iN by show (t.ins.map InV.d).length = _; rw [List.length_map, hf.ins.1])
  have hol := hide (show t.d.outs.length = t.oN by show (t.outs.map OutV.d).length = _; rw [List.length_map, hf.outs.1])
  obtain ⟨w1, hw1⟩ : ∃ w1, w1 = w.alloc (.cells t.cells.toArray 65) := ⟨_, rfl⟩
  have hld := loadTx_run w1 w.heap.size 0 t (by rw [hw1]; exact T0.whole)
  rw [← hw1] at T0 HF HB0
  have x1 := T0.c1
  have x2 := T0.c2
  have HT := hide T0
  clear hf hs T0 hb0
  by_cases h1 : t.iN = 0
  · have hc1 : ((t.iN : Int) == 0) = true := by simp [h1]
    have hres : checkT t.d = 101 := by unfold checkT; rw [if_pos (.inl (by rw [hil.out]; exact h1))]
    have HR := hide hres
    clear hres h1
    subst hw1
    go_enter Try.func43, Try.ntmps43
    go_wp2_with fail
    go_ret
    exact ⟨by rw [HR.out]; rfl, HB0.out⟩
  · have hc1 : ((t.iN : Int) == 0) = false := by simp; omega
    by_cases h2 : t.oN = 0
    · have hc2 : ((t.oN : Int) == 0) = true := by simp [h2]
      have hres : checkT t.d = 101 := by unfold checkT; rw [if_pos (.inr (.inl (by rw [hol.out]; exact h2)))]
      have HR := hide hres
      clear hres h1 h2
      subst hw1
      go_enter Try.func43, Try.ntmps43
      go_wp2_with fail
      go_ret
      exact ⟨by rw [HR.out]; rfl, HB0.out⟩
    · have hc2 : ((t.oN : Int) == 0) = false := by simp; omega
      have h12 := hide (show ¬ (t.d.ins.length = 0) ∧ ¬ (t.d.outs.length = 0) by rw [hil.out, hol.out]; exact ⟨h1, h2⟩)
      clear h1 h2
      subst hw1
      go_enter Try.func43, Try.ntmps43
      go_wp2_with fail
      obtain ⟨w1, hw1⟩ : ∃ w1, w1 = w.alloc (.cells t.cells.toArray 65) := ⟨_, rfl⟩
      rw [← hw1] at HF HB0 HT x1 x2 hld ⊢
      clear hw1
      refine (TBytes_any w1 t HF.out HS.out).mono ?_
      rintro e w2 ⟨A2, n2, c2, rfl, t2, f2⟩
      have hb2 := t2.below
      have HB2 := hide hb2
      have hl2 := hide t2.len
      have x2 := cell_under hb2 x2
      have x1 := cell_under hb2 x1
      clear t2 f2 hld
      by_cases h3 : 5000 < n2
      · have hc3 : (5000 : Int) < (n2 : Int) := by omega
        have hres : checkT t.d = 101 := by unfold checkT; rw [if_pos (.inr (.inr (by rw [hl2.out]; exact h3)))]
        have HR := hide hres
        clear hres h3
        go_wp2_with fail
        go_ret
        exact ⟨by rw [HR.out]; rfl, Below.then_ HB0.out HB2.out⟩
      · have hc3 : ¬ (5000 : Int) < (n2 : Int) := by omega
        have hres0 : checkT t.d = (if (sumFrom (t.d.outs.map (·.value)) 0).2 ≠ 0 then (sumFrom (t.d.outs.map (·.value)) 0).2
            else if dup [] t.d.ins = true then 101
            else if baseT t.d.ins = true then (if (t.d.ins.map (fun a => a.unlock.length)).headD 0 < 2 ∨ 100 < (t.d.ins.map (fun a => a.unlock.length)).headD 0 then 101 else 0)
            else if (t.d.ins.map (·.ref)).any (fun q => q.eqb nullR) = true then 101 else 0) := by
          unfold checkT
          rw [if_neg]
          rintro (h | h | h)
          · exact h12.out.1 h
          · exact h12.out.2 h
          · rw [hl2.out] at h; exact h3 h
        have HR0 := hide hres0
        clear hres0 h3
        go_wp2_with fail
        refine (Sum_any w2 t.oA t.oN t.oC t.outs (HF.out.outs.below' HB2.out) (by have := HS.out.outs; omega)).mono ?_
        rintro e w3 ⟨rfl, hb3⟩
        have hvs : t.outs.map (·.v) = t.d.outs.map (·.value) := by show _ = (t.outs.map OutV.d).map (·.value); rw [List.map_map]; rfl
        rw [hvs]
        obtain ⟨sm, hsm⟩ : ∃ sm, sm = sumFrom (t.d.outs.map (·.value)) 0 := ⟨_, rfl⟩
        rw [← hsm] at HR0 ⊢
        have x1 := cell_under hb3 x1
        have HB3 := hide (Below.then_ HB2.out hb3)
        clear hsm hvs hb3 hb2 x2
        by_cases h4 : sm.2 = 0
        · have hc4 : (sm.2 == 0) = true := by simp [h4]
          have HR1 := hide (HR0.out.trans (if_neg (fun h => h h4)))
          have hmm := @run_makeMap Try.prog
          have M0 := hide (Seen.made w3)
          have x1 := cell_under ((Below.refl _ w3).alloc (Nat.le_refl _) (.map #[] 0)) x1
          obtain ⟨w4, hw4⟩ : ∃ w4, w4 = w3.alloc (.map #[] 0) := ⟨_, rfl⟩
          have x1a := x1
          rw [← hw4] at M0 x1
          have HB4 := hide (show Below w1.heap.size w1 w4 by rw [hw4]; exact Below.then_ HB3.out ((Below.refl _ w3).alloc (Nat.le_refl _) _))
          have hbm := hide (show w1.heap.size ≤ w3.heap.size from HB3.out.size)
          have hins := hide (HF.out.ins.below' HB4.out)
          have HB40 := hide (Below.then_ HB0.out HB4.out)
          have HT4 := hide (HT.out.under HB4.out)
          have hsz0 := hide (show w.heap.size < w1.heap.size from HT.out.lt)
          clear HR0 h4
          go_wp2_with fail
          rw [← hw4]
          clear hw4 x1a
          go_loopw [42] (fun i wr => ∃ j : Nat, j ≤ t.iN ∧ i = .int .i64 j ∧ Seen wr w3.heap.size j ((t.d.ins.take j).map (·.ref)) ∧ dup [] t.d.ins = dup ((t.d.ins.take j).map (·.ref)) (t.d.ins.drop j) ∧ Only (fun i => i = w3.heap.size) w4 wr) (fun i _ => t.iN - (intOf i).toNat)
          case atStart => exact ⟨0, by omega, rfl, M0.out, rfl, Only.refl _ _⟩
          case round =>
            obtain ⟨j, hj, rfl, hS, hd, ho⟩ := hrel
            have HSN := hide hS
            have HD := hide hd
            have HO := hide ho
            have hbw : Below w1.heap.size w1 wr := HB4.out.trans (ho.below HB4.out.size (fun i hi e => by have h9 : i = w3.heap.size := e; have := hbm.out; omega))
            have HBW := hide hbw
            by_cases hlt : j < t.iN
            · obtain ⟨a, ha⟩ : ∃ a, t.ins[j]? = some a := ⟨_, List.getElem?_eq_getElem (by have := HF.out.ins.1; omega)⟩
              have haf := HF.out.ins.2.1 a (List.mem_of_getElem? ha)
              obtain ⟨pa, oa, hpa, hra⟩ := HF.out.ins.2.2 (by omega)
              have hld := loadIn_run wr pa (oa + j * 35) a (range_under (hra j a ha) hbw) haf.ref
              have hdj := hide (dup_step t.d.ins j a.d (by show (t.ins.map InV.d)[j]? = _; rw [List.getElem?_map, ha]; rfl))
              have hta := hide (show (t.d.ins.take (j + 1)).map (·.ref) = (t.d.ins.take j).map (·.ref) ++ [a.ref] by
                rw [List.take_add_one, show t.d.ins[j]? = some a.d by show (t.ins.map InV.d)[j]? = _; rw [List.getElem?_map, ha]; rfl]
                simp [InV.d])
              have la : a.cells.length = 35 := InV.cells_len haf.ref
              have lz : zeroI.cells.length = 35 := rfl
              have hI := isIn
              have HAR := hide haf.ref
              have KZ := hide (Blk.new wr 68 zeroI.cells)
              have hbl := hide (show w3.heap.size < wr.heap.size from hS.lt)
              have i0 : (0 : Int) ≤ (j : Int) := by omega
              have i1 : (j : Int) < (t.iN : Int) := by omega
              have hj9 : (j : Int) ≤ 1000 := by have := HS.out.ins; omega
              obtain ⟨sn, hsn⟩ : ∃ sn, sn = (t.d.ins.take j).map (·.ref) := ⟨_, rfl⟩
              rw [← hsn] at HSN hdj hta HD
              have HSE := hide hsn
              obtain ⟨bb, hbb⟩ : ∃ bb, bb = sn.any (fun q => q.eqb a.d.ref) := ⟨_, rfl⟩
              have HBB := hide (show bb = sn.any (fun q => q.eqb a.ref) from hbb)
              rw [← hbb] at hdj
              clear ha haf hra hS hd ho hbw hsn hbb
              rw [hpa]
              cases bb with
              | true =>
                have HR := hide (HR1.out.trans (if_pos (by rw [HD.out, hdj.out]; rfl)))
                go_wp2_with (first
                  | (refine wpList_alloc_agg rfl 68 rfl zeroI.cells zeroIn_info ?_; simp only [Act.put, List.setIfInBounds_toArray, List.set_cons_zero, List.set_cons_succ])
                  | (refine wpList_store_blk rfl 68 _ _ rfl wr.heap.size 0 68 zeroI.cells a.cells (by rfl) (by rfl) KZ.out (by rw [lz, la]; decide) (by rw [hI, la]) (InV.one a) ?_; intro w5 o5 z5 b5; rw [lay_all zeroI.cells _ (by rw [lz, la])] at b5; have hlr := loadRef_run w5 wr.heap.size 0 a.ref (InV.range_ref b5.whole) HAR.out; have B5 := hide b5; have S5 := hide ((HSN.out.only (Only.alloc0 (F := fun _ => False) wr (.cells zeroI.cells.toArray 68)) (fun h => h)).only o5 (by have := hbl.out; omega)); have O5 := hide (((HO.out.alloc (.cells zeroI.cells.toArray 68)).trans o5 (fun i hi e => by have h9 : i = wr.heap.size := e; have := HO.out.size; omega))); clear o5 z5 b5; simp only [Act.put])
                  | (at_lookup; refine wpList_seen_look w5 rfl _ _ rfl w3.heap.size j sn (by rfl) S5.out a.ref HAR.out (by rfl) ?_; intro cc; rw [← HBB.out]; simp only [Act.put, List.setIfInBounds_toArray, List.set_cons_zero, List.set_cons_succ]))
                go_ret
                exact ⟨by rw [HR.out]; rfl, HB40.out.trans (O5.out.below HB40.out.size (fun i hi e => by have h9 : i = w3.heap.size := e; have := hbm.out; have := hsz0.out; omega))⟩
              | false =>
                go_wp2_with (first
                  | (refine wpList_alloc_agg rfl 68 rfl zeroI.cells zeroIn_info ?_; simp only [Act.put, List.setIfInBounds_toArray, List.set_cons_zero, List.set_cons_succ])
                  | (refine wpList_store_blk rfl 68 _ _ rfl wr.heap.size 0 68 zeroI.cells a.cells (by rfl) (by rfl) KZ.out (by rw [lz, la]; decide) (by rw [hI, la]) (InV.one a) ?_; intro w5 o5 z5 b5; rw [lay_all zeroI.cells _ (by rw [lz, la])] at b5; have hlr := loadRef_run w5 wr.heap.size 0 a.ref (InV.range_ref b5.whole) HAR.out; have B5 := hide b5; have S5 := hide ((HSN.out.only (Only.alloc0 (F := fun _ => False) wr (.cells zeroI.cells.toArray 68)) (fun h => h)).only o5 (by have := hbl.out; omega)); have O5 := hide (((HO.out.alloc (.cells zeroI.cells.toArray 68)).trans o5 (fun i hi e => by have h9 : i = wr.heap.size := e; have := HO.out.size; omega))); clear o5 z5 b5; simp only [Act.put])
                  | (at_lookup; refine wpList_seen_look w5 rfl _ _ rfl w3.heap.size j sn (by rfl) S5.out a.ref HAR.out (by rfl) ?_; intro cc; rw [← HBB.out]; simp only [Act.put, List.setIfInBounds_toArray, List.set_cons_zero, List.set_cons_succ])
                  | (refine wpList_seen_put w5 rfl _ _ _ rfl w3.heap.size j sn (by rfl) S5.out (by have := HS.out.ins; omega) a.ref HAR.out (by rfl) (j : Int) (by rfl) (wf_count i0 (by omega)) ?_; intro w6 q1 q2; have Q1 := hide q1; have Q2 := hide q2; clear q1 q2; simp only [Act.put]))
                exact ⟨⟨j + 1, by omega, by simp, by rw [hta.out]; exact Q1.out, by rw [HD.out, hdj.out]; rfl, O5.out.trans Q2.out (fun _ _ h => h)⟩, by simp [intOf]; omega⟩
            · have hje : t.iN = j := by omega
              have hall : t.d.ins.take j = t.d.ins := List.take_of_length_le (by rw [hil.out]; omega)
              have hdrop : t.d.ins.drop j = [] := List.drop_of_length_le (by rw [hil.out]; omega)
              rw [hall] at HSN HD
              rw [hdrop] at HD
              have HR2 := hide (HR1.out.trans (if_neg (by rw [HD.out]; simp [dup])))
              have hjn : ¬ (j : Int) < (t.iN : Int) := by omega
              have hld := loadTx_run wr w.heap.size 0 t (ho.blk HT4.out (by have := hbm.out; have := hsz0.out; omega)).whole
              have HB5 := hide (show Below w.heap.size w wr from HB40.out.trans (ho.below HB40.out.size (fun i hi e => by have h9 : i = w3.heap.size := e; have := hbm.out; have := hsz0.out; omega)))
              have HFR := hide (HF.out.below hbw)
              have HT5 := hide (ho.blk HT4.out (by have := hbm.out; have := hsz0.out; omega))
              clear hS hd ho hbw hall hdrop HD HR1
              go_wp2_with fail
              refine (TBase_any wr t HFR.out HS.out).mono ?_
              rintro e w7 ⟨rfl, hb7⟩
              have hbs : baseT (t.ins.map InV.d) = baseT t.d.ins := rfl
              rw [hbs]
              have HB7 := hide (Below.then_ HB5.out hb7)
              have y1 := (HT5.out.under hb7).c1
              have HS7 := hide (HSN.out.only (Only.of_below hb7 (fun _ => False)) (fun h => h))
              have HF7 := hide (HFR.out.below hb7)
              obtain ⟨bb, hbb⟩ : ∃ bb, bb = baseT t.d.ins := ⟨_, rfl⟩
              rw [← hbb] at HR2 ⊢
              have HBB := hide hbb
              clear hbb hbs hb7 hld
              cases bb with
              | true =>
                have HR3 := hide (HR2.out.trans (if_pos rfl))
                have hone : t.iN = 1 := by
                  apply Classical.byContradiction
                  intro h9
                  have := baseT_not t.d.ins (by rw [hil.out]; exact h9)
                  rw [← HBB.out] at this
                  cases this
                obtain ⟨a, ha⟩ : ∃ a, t.ins[0]? = some a := ⟨_, List.getElem?_eq_getElem (by have := HF.out.ins.1; omega)⟩
                have haf := HF7.out.ins.2.1 a (List.mem_of_getElem? ha)
                obtain ⟨pa, oa, hpa, hra⟩ := HF7.out.ins.2.2 (by omega)
                have hr0 : w7.rangeAt pa oa a.cells := by have := hra 0 a ha; simpa using this
                have k33 : w7.cell? ⟨pa, oa + 33, none⟩ = some (.slice a.A a.n a.c) := hr0 33 _ (by rw [InV.cells, List.getElem?_append_right (by rw [RefD.cells_len haf.ref]; exact Nat.le_refl _), RefD.cells_len haf.ref]; rfl)
                have hlist : t.ins = [a] := by
                  have hl := HF.out.ins.1
                  rw [hone] at hl
                  match hti : t.ins, hl, ha with
                  | [b], _, ha => simp at ha; rw [ha]
                have hhead : (t.d.ins.map (fun a => a.unlock.length)).headD 0 = a.n := by
                  show ((t.ins.map InV.d).map (fun a => a.unlock.length)).headD 0 = a.n
                  rw [hlist]
                  show a.bs.length = a.n
                  exact haf.bys.1
                rw [hhead] at HR3
                rw [hone, hpa] at y1
                have hj1 : j = 1 := by omega
                clear ha haf hra hr0 hlist hhead HBB HF7 HS7 hjn
                by_cases h5 : a.n < 2
                · have hc5 : (a.n : Int) < 2 := by omega
                  have HR := hide (HR3.out.trans (if_pos (.inl h5)))
                  clear h5 HR3
                  go_wp2_with fail
                  go_ret
                  exact ⟨by rw [HR.out]; rfl, HB7.out⟩
                · have hc5 : ¬ (a.n : Int) < 2 := by omega
                  by_cases h6 : 100 < a.n
                  · have hc6 : (100 : Int) < (a.n : Int) := by omega
                    have HR := hide (HR3.out.trans (if_pos (.inr h6)))
                    clear h5 h6 HR3
                    go_wp2_with fail
                    go_ret
                    exact ⟨by rw [HR.out]; rfl, HB7.out⟩
                  · have hc6 : ¬ (100 : Int) < (a.n : Int) := by omega
                    have HR := hide (HR3.out.trans (if_neg (by rintro (h | h); exact h5 h; exact h6 h)))
                    clear h5 h6 HR3
                    go_wp2_with fail
                    go_ret
                    exact ⟨by rw [HR.out]; rfl, HB7.out⟩
              | false =>
                have HR3 := hide (HR2.out.trans (if_neg (by simp)))
                go_wp2_with fail
                refine (null_any w7).mono ?_
                rintro e w8 ⟨rfl, hb8⟩
                have HB8 := hide (Below.then_ HB7.out hb8)
                have HS8 := hide (HS7.out.only (Only.of_below hb8 (fun _ => False)) (fun h => h))
                obtain ⟨nn, hnn⟩ : ∃ nn, nn = (t.d.ins.map (·.ref)).any (fun q => q.eqb nullR) := ⟨_, rfl⟩
                rw [← hnn] at HR3
                have HNN := hide hnn
                clear hnn hb8
                cases nn with
                | true =>
                  go_wp2_with (at_lookup; refine wpList_seen_look w8 rfl _ _ rfl w3.heap.size j _ (by rfl) HS8.out nullR nullR_fine (by rfl) ?_; intro cc; rw [← HNN.out]; simp only [Act.put, List.setIfInBounds_toArray, List.set_cons_zero, List.set_cons_succ])
                  go_ret
                  exact ⟨by rw [HR3.out]; rfl, HB8.out⟩
                | false =>
                  go_wp2_with (at_lookup; refine wpList_seen_look w8 rfl _ _ rfl w3.heap.size j _ (by rfl) HS8.out nullR nullR_fine (by rfl) ?_; intro cc; rw [← HNN.out]; simp only [Act.put, List.setIfInBounds_toArray, List.set_cons_zero, List.set_cons_succ])
                  go_ret
                  exact ⟨by rw [HR3.out]; rfl, HB8.out⟩
        · have hc4 : (sm.2 == 0) = false := by simp [h4]
          have HR := hide (HR0.out.trans (if_pos h4))
          go_wp2_with fail
          go_ret
          exact ⟨by rw [HR.out]; rfl, Below.then_ HB0.out HB3.out⟩
end Go.Proofs.Ytfloclamdpageaa
