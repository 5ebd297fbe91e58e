import Derived.Test.YtbpmcnfmgaolnaaPk9
import Derived.KernelRfl
/-
  tx: Check.
-/
namespace Go.Proofs.Ytbpmcnfmgaolnaa
open Go.RowKit

/-- Does a reference come twice? seen: those ahead. -/
def dup : List RefD → List InD → Bool
  | _, [] => false
  | seen, a :: l => seen.any (fun q => q.eqb a.ref) || dup (seen ++ [a.ref]) l
def checkT (t : TxD) : Int :=
  if t.ins.length = 0 ∨ t.outs.length = 0 ∨ 5000 < t.bytes.length then 101
  else if (sumFrom (t.outs.map (·.value)) 0).2 ≠ 0 then (sumFrom (t.outs.map (·.value)) 0).2
  else if dup [] t.ins = true then 101
  else if baseT t.ins = true then (if (t.ins.map (fun a => a.unlock.length)).headD 0 < 2 ∨ 100 < (t.ins.map (fun a => a.unlock.length)).headD 0 then 101 else 0)
  else if (t.ins.map (·.ref)).any (fun q => q.eqb nullR) = true then 101 else 0
theorem dup_step (l : List InD) (j : Nat) (a : InD) (h : l[j]? = some a) : dup ((l.take j).map (·.ref)) (l.drop j) = (((l.take j).map (·.ref)).any (fun q => q.eqb a.ref) || dup ((l.take (j + 1)).map (·.ref)) (l.drop (j + 1))) := by
  obtain ⟨h1, h2⟩ := List.getElem?_eq_some_iff.1 h
  rw [List.drop_eq_getElem_cons h1, h2, dup]
  congr 2
  rw [List.take_add_one, h]
  simp
attribute [local go_sem ↓] loadIn_fold loadRef_fold loadTx_fold eqlRef_fold neqRef_fold mkRef_fold mkTx_fold
theorem wf_count {n : Int} (h0 : 0 ≤ n) (h1 : n ≤ 1000000) : (Lit.int .i64 n).wf = true := by
  simp [Lit.wf, IntKind.min, IntKind.max, IntKind.signed, IntKind.bits]; omega
set_option maxHeartbeats 8000000 in
set_option maxRecDepth 100000 in
theorem TCheck_any (w : World) (t : TxV) (hf : t.Fine w) (hs : t.Small) :
    Calls Try.prog 61 #[.agg t.cells.toArray] w fun e w' => e = .returned (.int .i64 (checkT t.d)) ∧ Below w.heap.size w w' := by
  have T0 := Blk.new w 37 t.cells
  have hb0 : Below w.heap.size w (w.alloc (.cells t.cells.toArray 37)) := (Below.refl _ w).alloc (Nat.le_refl _) _
  have HF := hide (hf.below hb0)
  have HB0 := hide hb0
  have HS := hide hs
  have hil := hide (show t.d.ins.length = t.iN by show (t.ins.map InV.d).length = _; rw [List.length_map, hf.ins.1])
  have hol := hide (show t.d.outs.length = t.oN by show (t.outs.map OutV.d).length = _; rw [List.length_map, hf.outs.1])
  obtain ⟨w1, hw1⟩ : ∃ w1, w1 = w.alloc (.cells t.cells.toArray 37) := ⟨_, rfl⟩
  have hld := loadTx_run w1 w.heap.size 0 t (by rw [hw1]; exact T0.whole)
  rw [← hw1] at T0 HF HB0
  have x1 := T0.c1
  have x2 := T0.c2
  have HT := hide T0
  clear hf hs T0 hb0
  by_cases h1 : t.iN = 0
  · have hc1 : ((t.iN : Int) == 0) = true := by simp [h1]
    have hres : checkT t.d = 101 := by unfold checkT; rw [if_pos (.inl (by rw [hil.out]; exact h1))]
    have HR := hide hres
    clear hres h1
    subst hw1
    go_enter Try.func61, Try.ntmps61
    go_wp2_with fail
    go_ret
    exact ⟨by rw [HR.out]; rfl, HB0.out⟩
  · have hc1 : ((t.iN : Int) == 0) = false := by simp; omega
    by_cases h2 : t.oN = 0
    · have hc2 : ((t.oN : Int) == 0) = true := by simp [h2]
      have hres : checkT t.d = 101 := by unfold checkT; rw [if_pos (.inr (.inl (by rw [hol.out]; exact h2)))]
      have HR := hide hres
      clear hres h1 h2
      subst hw1
      go_enter Try.func61, Try.ntmps61
      go_wp2_with fail
      go_ret
      exact ⟨by rw [HR.out]; rfl, HB0.out⟩
    · have hc2 : ((t.oN : Int) == 0) = false := by simp; omega
      have h12 := hide (show ¬ (t.d.ins.length = 0) ∧ ¬ (t.d.outs.length = 0) by rw [hil.out, hol.out]; exact ⟨h1, h2⟩)
      clear h1 h2
      subst hw1
      go_enter Try.func61, Try.ntmps61
      go_wp2_with fail
      obtain ⟨w1, hw1⟩ : ∃ w1, w1 = w.alloc (.cells t.cells.toArray 37) := ⟨_, rfl⟩
      rw [← hw1] at HF HB0 HT x1 x2 hld ⊢
      clear hw1
      refine (TBytes_any w1 t HF.out HS.out).mono ?_
      rintro e w2 ⟨A2, n2, c2, rfl, t2, f2⟩
      have hb2 := t2.below
      have HB2 := hide hb2
      have hl2 := hide t2.len
      have x2 := cell_under hb2 x2
      have x1 := cell_under hb2 x1
      clear t2 f2 hld
      by_cases h3 : 5000 < n2
      · have hc3 : (5000 : Int) < (n2 : Int) := by omega
        have hres : checkT t.d = 101 := by unfold checkT; rw [if_pos (.inr (.inr (by rw [hl2.out]; exact h3)))]
        have HR := hide hres
        clear hres h3
        go_wp2_with fail
        go_ret
        exact ⟨by rw [HR.out]; rfl, Below.then_ HB0.out HB2.out⟩
      · have hc3 : ¬ (5000 : Int) < (n2 : Int) := by omega
        have hres0 : checkT t.d = (if (sumFrom (t.d.outs.map (·.value)) 0).2 ≠ 0 then (sumFrom (t.d.outs.map (·.value)) 0).2
            else if dup [] t.d.ins = true then 101
            else if baseT t.d.ins = true then (if (t.d.ins.map (fun a => a.unlock.length)).headD 0 < 2 ∨ 100 < (t.d.ins.map (fun a => a.unlock.length)).headD 0 then 101 else 0)
            else if (t.d.ins.map (·.ref)).any (fun q => q.eqb nullR) = true then 101 else 0) := by
          unfold checkT
          rw [if_neg]
          rintro (h | h | h)
          · exact h12.out.1 h
          · exact h12.out.2 h
          · rw [hl2.out] at h; exact h3 h
        have HR0 := hide hres0
        clear hres0 h3
        go_wp2_with fail
        refine (Sum_any w2 t.oA t.oN t.oC t.outs (HF.out.outs.below' HB2.out) (by have := HS.out.outs; omega)).mono ?_
        rintro e w3 ⟨rfl, hb3⟩
        have hvs : t.outs.map (·.v) = t.d.outs.map (·.value) := by show _ = (t.outs.map OutV.d).map (·.value); rw [List.map_map]; rfl
        rw [hvs]
        obtain ⟨sm, hsm⟩ : ∃ sm, sm = sumFrom (t.d.outs.map (·.value)) 0 := ⟨_, rfl⟩
        rw [← hsm] at HR0 ⊢
        have x1 := cell_under hb3 x1
        have HB3 := hide (Below.then_ HB2.out hb3)
        clear hsm hvs hb3 hb2 x2
        by_cases h4 : sm.2 = 0
        · have hc4 : (sm.2 == 0) = true := by simp [h4]
          have HR1 := hide (HR0.out.trans (if_neg (fun h => h h4)))
          have hmm := @run_makeMap Try.prog
          have M0 := hide (Seen.made w3)
          have x1 := cell_under ((Below.refl _ w3).alloc (Nat.le_refl _) (.map #[] 0)) x1
          obtain ⟨w4, hw4⟩ : ∃ w4, w4 = w3.alloc (.map #[] 0) := ⟨_, rfl⟩
          have x1a := x1
          rw [← hw4] at M0 x1
          have HB4 := hide (show Below w1.heap.size w1 w4 by rw [hw4]; exact Below.then_ HB3.out ((Below.refl _ w3).alloc (Nat.le_refl _) _))
          have hbm := hide (show w1.heap.size ≤ w3.heap.size from HB3.out.size)
          have hins := hide (HF.out.ins.below' HB4.out)
          have HB40 := hide (Below.then_ HB0.out HB4.out)
          have HT4 := hide (HT.out.under HB4.out)
          have hsz0 := hide (show w.heap.size < w1.heap.size from HT.out.lt)
          clear HR0 h4
          go_wp2_with fail
          rw [← hw4]
          clear hw4 x1a
          go_loopw [42] (fun i wr => ∃ j : Nat, j ≤ t.iN ∧ i = .int .i64 j ∧ Seen wr w3.heap.size j ((t.d.ins.take j).map (·.ref)) ∧ dup [] t.d.ins = dup ((t.d.ins.take j).map (·.ref)) (t.d.ins.drop j) ∧ Only (fun i => i = w3.heap.size) w4 wr) (fun i _ => t.iN - (intOf i).toNat)
          case atStart => exact ⟨0, by omega, rfl, M0.out, rfl, Only.refl _ _⟩
          case round =>
            obtain ⟨j, hj, rfl, hS, hd, ho⟩ := hrel
            have HSN := hide hS
            have HD := hide hd
            have HO := hide ho
            have hbw : Below w1.heap.size w1 wr := HB4.out.trans (ho.below HB4.out.size (fun i hi e => by have h9 : i = w3.heap.size := e; have := hbm.out; omega))
            have HBW := hide hbw
            by_cases hlt : j < t.iN
            · obtain ⟨a, ha⟩ : ∃ a, t.ins[j]? = some a := ⟨_, List.getElem?_eq_getElem (by have := HF.out.ins.1; omega)⟩
              have haf := HF.out.ins.2.1 a (List.mem_of_getElem? ha)
              obtain ⟨pa, oa, hpa, hra⟩ := HF.out.ins.2.2 (by omega)
              have hld := loadIn_run wr pa (oa + j * 35) a (range_under (hra j a ha) hbw) haf.ref
              have hdj := hide (dup_step t.d.ins j a.d (by show (t.ins.map InV.d)[j]? = _; rw [List.getElem?_map, ha]; rfl))
              have hta := hide (show (t.d.ins.take (j + 1)).map (·.ref) = (t.d.ins.take j).map (·.ref) ++ [a.ref] by
                rw [List.take_add_one, show t.d.ins[j]? = some a.d by show (t.ins.map InV.d)[j]? = _; rw [List.getElem?_map, ha]; rfl]
                simp [InV.d])
              have la : a.cells.length = 35 := InV.cells_len haf.ref
              have lz : zeroI.cells.length = 35 := rfl
              have hI := isIn
              have HAR := hide haf.ref
              have KZ := hide (Blk.new wr 60 zeroI.cells)
              have hbl := hide (show w3.heap.size < wr.heap.size from hS.lt)
              have i0 : (0 : Int) ≤ (j : Int) := by omega
              have i1 : (j : Int) < (t.iN : Int) := by omega
              have hj9 : (j : Int) ≤ 1000 := by have := HS.out.ins; omega
              obtain ⟨sn, hsn⟩ : ∃ sn, sn = (t.d.ins.take j).map (·.ref) := ⟨_, rfl⟩
              rw [← hsn] at HSN hdj hta HD
              have HSE := hide hsn
              obtain ⟨bb, hbb⟩ : ∃ bb, bb = sn.any (fun q => q.eqb a.d.ref) := ⟨_, rfl⟩
              have HBB := hide (show bb = sn.any (fun q => q.eqb a.ref) from hbb)
              rw [← hbb] at hdj
              clear ha haf hra hS hd ho hbw hsn hbb
              rw [hpa]
              cases bb with
              | true =>
                have HR := hide (HR1.out.trans (if_pos (by rw [HD.out, hdj.out]; rfl)))
                go_wp2_with (first
                  | (refine wpList_alloc_agg rfl 60 rfl zeroI.cells zeroIn_info ?_; simp only [Act.put, List.setIfInBounds_toArray, List.set_cons_zero, List.set_cons_succ])
                  | (refine wpList_store_blk rfl 60 _ _ rfl wr.heap.size 0 60 zeroI.cells a.cells (by rfl) (by rfl) KZ.out (by rw [lz, la]; decide) (by rw [hI, la]) (InV.one a) ?_; intro w5 o5 z5 b5; rw [lay_all zeroI.cells _ (by rw [lz, la])] at b5; have hlr := loadRef_run w5 wr.heap.size 0 a.ref (InV.range_ref b5.whole) HAR.out; have B5 := hide b5; have S5 := hide ((HSN.out.only (Only.alloc0 (F := fun _ => False) wr (.cells zeroI.cells.toArray 60)) (fun h => h)).only o5 (by have := hbl.out; omega)); have O5 := hide (((HO.out.alloc (.cells zeroI.cells.toArray 60)).trans o5 (fun i hi e => by have h9 : i = wr.heap.size := e; have := HO.out.size; omega))); clear o5 z5 b5; simp only [Act.put])
                  | (at_lookup; refine wpList_seen_look w5 rfl _ _ rfl w3.heap.size j sn (by rfl) S5.out a.ref HAR.out (by rfl) ?_; intro cc; rw [← HBB.out]; simp only [Act.put, List.setIfInBounds_toArray, List.set_cons_zero, List.set_cons_succ]))
                go_ret
                exact ⟨by rw [HR.out]; rfl, HB40.out.trans (O5.out.below HB40.out.size (fun i hi e => by have h9 : i = w3.heap.size := e; have := hbm.out; have := hsz0.out; omega))⟩
              | false =>
                go_wp2_with (first
                  | (refine wpList_alloc_agg rfl 60 rfl zeroI.cells zeroIn_info ?_; simp only [Act.put, List.setIfInBounds_toArray, List.set_cons_zero, List.set_cons_succ])
                  | (refine wpList_store_blk rfl 60 _ _ rfl wr.heap.size 0 60 zeroI.cells a.cells (by rfl) (by rfl) KZ.out (by rw [lz, la]; decide) (by rw [hI, la]) (InV.one a) ?_; intro w5 o5 z5 b5; rw [lay_all zeroI.cells _ (by rw [lz, la])] at b5; have hlr := loadRef_run w5 wr.heap.size 0 a.ref (InV.range_ref b5.whole) HAR.out; have B5 := hide b5; have S5 := hide ((HSN.out.only (Only.alloc0 (F := fun _ => False) wr (.cells zeroI.cells.toArray 60)) (fun h => h)).only o5 (by have := hbl.out; omega)); have O5 := hide (((HO.out.alloc (.cells zeroI.cells.toArray 60)).trans o5 (fun i hi e => by have h9 : i = wr.heap.size := e; have := HO.out.size; omega))); clear o5 z5 b5; simp only [Act.put])
                  | (at_lookup; refine wpList_seen_look w5 rfl _ _ rfl w3.heap.size j sn (by rfl) S5.out a.ref HAR.out (by rfl) ?_; intro cc; rw [← HBB.out]; simp only [Act.put, List.setIfInBounds_toArray, List.set_cons_zero, List.set_cons_succ])
                  | (refine wpList_seen_put w5 rfl _ _ _ rfl w3.heap.size j sn (by rfl) S5.out (by have := HS.out.ins; omega) a.ref HAR.out (by rfl) (j : Int) (by rfl) (wf_count i0 (by omega)) ?_; intro w6 q1 q2; have Q1 := hide q1; have Q2 := hide q2; clear q1 q2; simp only [Act.put]))
                exact ⟨⟨j + 1, by omega, by simp, by rw [hta.out]; exact Q1.out, by rw [HD.out, hdj.out]; rfl, O5.out.trans Q2.out (fun _ _ h => h)⟩, by simp [intOf]; omega⟩
            · have hje : t.iN = j := by omega
              have hall : t.d.ins.take j = t.d.ins := List.take_of_length_le (by rw [hil.out]; omega)
              have hdrop : t.d.ins.drop j = [] := List.drop_of_length_le (by rw [hil.out]; omega)
              rw [hall] at HSN HD
              rw [hdrop] at HD
              have HR2 := hide (HR1.out.trans (if_neg (by rw [HD.out]; simp [dup])))
              have hjn : ¬ (j : Int) < (t.iN : Int) := by omega
              have hld := loadTx_run wr w.heap.size 0 t (ho.blk HT4.out (by have := hbm.out; have := hsz0.out; omega)).whole
              have HB5 := hide (show Below w.heap.size w wr from HB40.out.trans (ho.below HB40.out.size (fun i hi e => by have h9 : i = w3.heap.size := e; have := hbm.out; have := hsz0.out; omega)))
              have HFR := hide (HF.out.below hbw)
              have HT5 := hide (ho.blk HT4.out (by have := hbm.out; have := hsz0.out; omega))
              clear hS hd ho hbw hall hdrop HD HR1
              go_wp2_with fail
              refine (TBase_any wr t HFR.out HS.out).mono ?_
              rintro e w7 ⟨rfl, hb7⟩
              have hbs : baseT (t.ins.map InV.d) = baseT t.d.ins := rfl
              rw [hbs]
              have HB7 := hide (Below.then_ HB5.out hb7)
              have y1 := (HT5.out.under hb7).c1
              have HS7 := hide (HSN.out.only (Only.of_below hb7 (fun _ => False)) (fun h => h))
              have HF7 := hide (HFR.out.below hb7)
              obtain ⟨bb, hbb⟩ : ∃ bb, bb = baseT t.d.ins := ⟨_, rfl⟩
              rw [← hbb] at HR2 ⊢
              have HBB := hide hbb
              clear hbb hbs hb7 hld
              cases bb with
              | true =>
                have HR3 := hide (HR2.out.trans (if_pos rfl))
                have hone : t.iN = 1 := by
                  apply Classical.byContradiction
                  intro h9
                  have := baseT_not t.d.ins (by rw [hil.out]; exact h9)
                  rw [← HBB.out] at this
                  cases this
                obtain ⟨a, ha⟩ : ∃ a, t.ins[0]? = some a := ⟨_, List.getElem?_eq_getElem (by have := HF.out.ins.1; omega)⟩
                have haf := HF7.out.ins.2.1 a (List.mem_of_getElem? ha)
                obtain ⟨pa, oa, hpa, hra⟩ := HF7.out.ins.2.2 (by omega)
                have hr0 : w7.rangeAt pa oa a.cells := by have := hra 0 a ha; simpa using this
                have k33 : w7.cell? ⟨pa, oa + 33, none⟩ = some (.slice a.A a.n a.c) := hr0 33 _ (by rw [InV.cells, List.getElem?_append_right (by rw [RefD.cells_len haf.ref]; exact Nat.le_refl _), RefD.cells_len haf.ref]; rfl)
                have hlist : t.ins = [a] := by
                  have hl := HF.out.ins.1
                  rw [hone] at hl
                  match hti : t.ins, hl, ha with
                  | [b], _, ha => simp at ha; rw [ha]
                have hhead : (t.d.ins.map (fun a => a.unlock.length)).headD 0 = a.n := by
                  show ((t.ins.map InV.d).map (fun a => a.unlock.length)).headD 0 = a.n
                  rw [hlist]
                  show a.bs.length = a.n
                  exact haf.bys.1
                rw [hhead] at HR3
                rw [hone, hpa] at y1
                have hj1 : j = 1 := by omega
                clear ha haf hra hr0 hlist hhead HBB HF7 HS7 hjn
                by_cases h5 : a.n < 2
                · have hc5 : (a.n : Int) < 2 := by omega
                  have HR := hide (HR3.out.trans (if_pos (.inl h5)))
                  clear h5 HR3
                  go_wp2_with fail
                  go_ret
                  exact ⟨by rw [HR.out]; rfl, HB7.out⟩
                · have hc5 : ¬ (a.n : Int) < 2 := by omega
                  by_cases h6 : 100 < a.n
                  · have hc6 : (100 : Int) < (a.n : Int) := by omega
                    have HR := hide (HR3.out.trans (if_pos (.inr h6)))
                    clear h5 h6 HR3
                    go_wp2_with fail
                    go_ret
                    exact ⟨by rw [HR.out]; rfl, HB7.out⟩
                  · have hc6 : ¬ (100 : Int) < (a.n : Int) := by omega
                    have HR := hide (HR3.out.trans (if_neg (by rintro (h | h); exact h5 h; exact h6 h)))
                    clear h5 h6 HR3
                    go_wp2_with fail
                    go_ret
                    exact ⟨by rw [HR.out]; rfl, HB7.out⟩
              | false =>
                have HR3 := hide (HR2.out.trans (if_neg (by simp)))
                go_wp2_with fail
                refine (null_any w7).mono ?_
                rintro e w8 ⟨rfl, hb8⟩
                have HB8 := hide (Below.then_ HB7.out hb8)
                have HS8 := hide (HS7.out.only (Only.of_below hb8 (fun _ => False)) (fun h => h))
                obtain ⟨nn, hnn⟩ : ∃ nn, nn = (t.d.ins.map (·.ref)).any (fun q => q.eqb nullR) := ⟨_, rfl⟩
                rw [← hnn] at HR3
                have HNN := hide hnn
                clear hnn hb8
                cases nn with
                | true =>
                  go_wp2_with (at_lookup; refine wpList_seen_look w8 rfl _ _ rfl w3.heap.size j _ (by rfl) HS8.out nullR nullR_fine (by rfl) ?_; intro cc; rw [← HNN.out]; simp only [Act.put, List.setIfInBounds_toArray, List.set_cons_zero, List.set_cons_succ])
                  go_ret
                  exact ⟨by rw [HR3.out]; rfl, HB8.out⟩
                | false =>
                  go_wp2_with (at_lookup; refine wpList_seen_look w8 rfl _ _ rfl w3.heap.size j _ (by rfl) HS8.out nullR nullR_fine (by rfl) ?_; intro cc; rw [← HNN.out]; simp only [Act.put, List.setIfInBounds_toArray, List.set_cons_zero, List.set_cons_succ])
                  go_ret
                  exact ⟨by rw [HR3.out]; rfl, HB8.out⟩
        · have hc4 : (sm.2 == 0) = false := by simp [h4]
          have HR := hide (HR0.out.trans (if_pos h4))
          go_wp2_with fail
          go_ret
          exact ⟨by rw [HR.out]; rfl, Below.then_ HB0.out HB3.out⟩
end Go.Proofs.Ytbpmcnfmgaolnaa
/-
  The chapter's example, as it is made; its name.
-/
namespace Go.Proofs.Ytbpmcnfmgaolnaa
open Go.RowKit

def baseI (gl : Nat) : InV := ⟨nullR, some ⟨gl, 0, none⟩, 2, 2, [1, 2], 0⟩
def baseO (gk : Nat) : OutV := ⟨5, some ⟨gk, 0, none⟩, 1, 1, [81]⟩
def baseV (gl gi gk go : Nat) : TxV := ⟨1, some ⟨gi, 0, none⟩, 1, 1, [baseI gl], some ⟨go, 0, none⟩, 1, 1, [baseO gk], 0⟩
def baseD : TxD := ⟨1, [⟨nullR, [1, 2], 0⟩], [⟨5, [81]⟩], 0⟩
theorem baseV_d (gl gi gk go : Nat) : (baseV gl gi gk go).d = baseD := rfl
theorem baseV_small (gl gi gk go : Nat) : (baseV gl gi gk go).Small := ⟨by simp [baseV], by simp [baseV], by simp [baseV, baseI], by simp [baseV, baseO]⟩
/-- The example, laid out in blocks of its own. -/
structure BaseAt (w0 w : World) (gl gi gk go : Nat) : Prop where
  below : Below w0.heap.size w0 w
  l : Blk w gl 5 (bcs [1, 2])
  i : Blk w gi 60 (baseI gl).cells
  k : Blk w gk 5 (bcs [81])
  o : Blk w go 62 (baseO gk).cells
  s1 : w0.heap.size < gl
  s2 : gl < gi
  s3 : gi < gk
  s4 : gk < go
theorem byt12 : Byt [1, 2] := by intro x hx; simp at hx; omega
theorem byt81 : Byt [81] := by intro x hx; simp at hx; omega
theorem blk_at (w : World) (t : TypeId) (cs : List Value) (k : Nat) (h : w.heap.size = k) : Blk (w.alloc (.cells cs.toArray t)) k t cs := h ▸ Blk.new w t cs
theorem BaseAt.fine {w0 w : World} {gl gi gk go : Nat} (h : BaseAt w0 w gl gi gk go) : (baseV gl gi gk go).Fine w := by
  refine ⟨(by decide : (0 : Int) ≤ 1 ∧ (1 : Int) ≤ 4294967295), (by decide : (0 : Int) ≤ 0 ∧ (0 : Int) ≤ 4294967295), ⟨rfl, fun a ha => ?_, fun _ => ⟨gi, 0, rfl, fun j a ha => ?_⟩⟩, ⟨rfl, fun a ha => ?_, fun _ => ⟨go, 0, rfl, fun j a ha => ?_⟩⟩, Nat.le_refl _, Nat.le_refl _⟩
  · obtain rfl : a = baseI gl := by simpa [baseV] using ha
    exact ⟨nullR_fine, Bys.of_blk h.l byt12, Nat.le_refl _, (by decide : (0 : Int) ≤ 0 ∧ (0 : Int) ≤ 4294967295)⟩
  · rcases j with _ | j
    · obtain rfl : baseI gl = a := by simpa [baseV] using ha
      simpa using h.i.whole
    · simp [baseV] at ha
  · obtain rfl : a = baseO gk := by simpa [baseV] using ha
    exact ⟨(by decide : (-9223372036854775808 : Int) ≤ 5 ∧ (5 : Int) ≤ 9223372036854775807), Bys.of_blk h.k byt81, Nat.le_refl _, Free.of_blk h.k _⟩
  · rcases j with _ | j
    · obtain rfl : baseO gk = a := by simpa [baseV] using ha
      simpa using h.o.whole
    · simp [baseV] at ha
theorem BaseAt.under {w0 w w' : World} {gl gi gk go : Nat} (h : BaseAt w0 w gl gi gk go) (hb : Below w.heap.size w w') : BaseAt w0 w' gl gi gk go :=
  ⟨Below.then_ h.below hb, h.l.under hb, h.i.under hb, h.k.under hb, h.o.under hb, h.s1, h.s2, h.s3, h.s4⟩
theorem mkIn_null (A : Option Addr) (n c : Nat) (bs : List Int) (w : World) : (mkIn #[(0, .agg nullR.cells.toArray), (1, .slice A n c)]).run Try.prog w = .ok (.agg (⟨nullR, A, n, c, bs, 0⟩ : InV).cells.toArray) w := by kernel_rfl
set_option maxRecDepth 100000 in
theorem base_sha : sha2 baseD.bytes = [189, 232, 236, 4, 83, 127, 188, 155, 191, 55, 160, 220, 98, 171, 214, 88, 12, 86, 73, 47, 189, 128, 24, 149, 199, 46, 23, 131, 87, 73, 23, 143] := by kernel_rfl
attribute [local go_sem ↓] loadIn_fold loadRef_fold loadTx_fold eqlRef_fold neqRef_fold mkRef_fold mkIn_fold mkIns_fold
attribute [local go_sem] mkRef_null
set_option maxHeartbeats 4000000 in
set_option maxRecDepth 100000 in
theorem base_any (w : World) : Calls Try.prog 97 #[] w fun e w' => ∃ gl gi gk go, e = .returned (.agg (baseV gl gi gk go).cells.toArray) ∧ BaseAt w w' gl gi gk go := by
  have hmi := fun (A : Option Addr) (w : World) => mkIn_null A 2 2 [1, 2] w
  have hms := fun (w1 : World) => mkIns_run w1 (⟨nullR, some ⟨w.heap.size + 1, 0, none⟩, 2, 2, [1, 2], 0⟩ : InV) nullR_fine
  go_enter Try.func97, Try.ntmps97
  go_wp2_with fail
  have BR := (((((blk_at w 37 (baseV (w.heap.size + 1) (w.heap.size + 2) (w.heap.size + 3) (w.heap.size + 4)).cells w.heap.size rfl).alloc (.cells (bcs [1, 2]).toArray 5)).alloc (.cells (baseI (w.heap.size + 1)).cells.toArray 60)).alloc (.cells (bcs [81]).toArray 5)).alloc (.cells (baseO (w.heap.size + 3)).cells.toArray 62))
  refine bodyPost_ret (results_cell_blk rfl _ _ w.heap.size 37 _ _ (by rfl) BR Try.underlying37 rfl (by exact isTx)) rfl ?_
  refine ⟨w.heap.size + 1, w.heap.size + 2, w.heap.size + 3, w.heap.size + 4, rfl, ?_, ?_, ?_, ?_, ?_, by omega, by omega, by omega, by omega⟩
  · exact below_alloc (below_alloc (below_alloc (below_alloc (below_alloc (Below.refl _ _) _) _) _) _) _
  · exact (((blk_at _ 5 (bcs [1, 2]) (w.heap.size + 1) (by simp)).alloc _).alloc _).alloc _
  · exact ((blk_at _ 60 (baseI (w.heap.size + 1)).cells (w.heap.size + 2) (by simp)).alloc _).alloc _
  · exact (blk_at _ 5 (bcs [81]) (w.heap.size + 3) (by simp)).alloc _
  · exact blk_at _ 62 (baseO (w.heap.size + 3)).cells (w.heap.size + 4) (by simp)
end Go.Proofs.Ytbpmcnfmgaolnaa
/-
  The chapter's example; one as bytes, and back.
-/
namespace Go.Proofs.Ytbpmcnfmgaolnaa
open Go.RowKit

theorem base_check : checkT baseD = 0 := by decide +kernel
theorem base_base {gl gi gk go : Nat} : baseT ((baseV gl gi gk go).ins.map InV.d) = true := by kernel_rfl
theorem base_same : baseD.same baseD = true := by kernel_rfl
theorem base_parse : parseT baseD.bytes = (baseD, 0) := by kernel_rfl
def eqlHash (x y : Value) : Sem Value := binOp .eql 31 x y
def neqHash (x y : Value) : Sem Value := binOp .neq 31 x y
theorem eqlHash_fold (x y : Value) : binOp .eql 31 x y = eqlHash x y := rfl
theorem neqHash_fold (x y : Value) : binOp .neq 31 x y = neqHash x y := rfl
theorem hashEq (w : World) (d : Nat) (a b : List Int) (ha : a.length = 32) (hb : b.length = 32) : (Op.equalIn (d + 2) 31 (.agg (bcs a).toArray) (.agg (bcs b).toArray)).run Try.prog w = .ok (a == b) w :=
  run_equalIn_row (P := Try.prog) w d 31 5 32 .u8 Try.underlying31 Try.underlying5 (fun w => run_size isU8 w) a b ha hb
theorem eqlHash_run (a b : List Int) (ha : a.length = 32) (hb : b.length = 32) (w : World) : (eqlHash (.agg (bcs a).toArray) (.agg (bcs b).toArray)).run Try.prog w = .ok (.bool (a == b)) w := by
  unfold eqlHash
  rw [run_eql_struct, hashEq w 9998 a b ha hb]
  rfl
theorem neqHash_run (a b : List Int) (ha : a.length = 32) (hb : b.length = 32) (w : World) : (neqHash (.agg (bcs a).toArray) (.agg (bcs b).toArray)).run Try.prog w = .ok (.bool (!(a == b))) w := by
  unfold neqHash
  rw [run_neq_struct, hashEq w 9998 a b ha hb]
  rfl
theorem eqlHash_self (a : List Int) (ha : a.length = 32) (w : World) : (eqlHash (.agg (bcs a).toArray) (.agg (bcs a).toArray)).run Try.prog w = .ok (.bool true) w := by
  rw [eqlHash_run a a ha ha]; simp
theorem neqHash_base (w : World) : (neqHash (.agg (bcs (sha2 baseD.bytes)).toArray) (.agg (bcs zero32).toArray)).run Try.prog w = .ok (.bool true) w := by
  rw [neqHash_run _ _ (sha2_len _) rfl, base_sha]
  rfl
def mkHash (parts : Array (Nat × Value)) : Sem Value := Instr.build 31 parts
theorem mkHash_fold (parts : Array (Nat × Value)) : Instr.build 31 parts = mkHash parts := rfl
theorem mkHash_zero (w : World) : (mkHash #[]).run Try.prog w = .ok (.agg (bcs zero32).toArray) w := by kernel_rfl
attribute [local go_sem ↓] loadIn_fold loadRef_fold loadTx_fold eqlHash_fold neqHash_fold mkHash_fold mkTx_fold
theorem guardHash : Try.prog.eqGuardType Try.prog.depth 31 = false := by kernel_rfl
attribute [local go_sem] mkHash_zero mkTx_zero guardHash
theorem baseD_len : baseD.bytes.length = 63 := by decide +kernel
/-- The example's data behind a letter: nobody evaluates it by chance. -/
theorem base_facts : ∃ (D : TxD) (L : List Int), (∀ gl gi gk go, (baseV gl gi gk go).d = D) ∧ parseT D.bytes = (D, 0) ∧ D.same D = true ∧ checkT D = 0 ∧ D.bytes.length = 63 ∧
    (∀ w, (neqHash (.agg (bcs L).toArray) (.agg (bcs zero32).toArray)).run Try.prog w = .ok (.bool true) w) ∧ (∀ w, (eqlHash (.agg (bcs L).toArray) (.agg (bcs L).toArray)).run Try.prog w = .ok (.bool true) w) ∧ sha2 D.bytes = L :=
  ⟨baseD, sha2 baseD.bytes, baseV_d, base_parse, base_same, base_check, baseD_len, neqHash_base, eqlHash_self _ (sha2_len _), rfl⟩
set_option maxHeartbeats 8000000 in
set_option maxRecDepth 100000 in
theorem txAlive_any (w : World) : Calls Try.prog 52 #[] w fun e w' => e = .returned (.bool true) ∧ Below w.heap.size w w' := by
  obtain ⟨D, L, fd, fp, fs, fc, fl, fz, fe, fx⟩ := base_facts
  have FD := hide fd
  have FP := hide fp
  have FS := hide fs
  have FC := hide fc
  have FL := hide fl
  have FZ := hide fz
  have FE := hide fe
  have FX := hide fx
  clear fd fp fs fc fl fz fe fx
  go_enter Try.func52, Try.ntmps52
  go_wp2_with fail
  refine (base_any w).mono ?_
  rintro e w1 ⟨gl, gi, gk, go, rfl, h1⟩
  go_wp2_with fail
  refine (TBytes_any w1 (baseV gl gi gk go) h1.fine (baseV_small _ _ _ _)).mono ?_
  rintro e w2 ⟨A2, n2, c2, rfl, t2, f2⟩
  rw [FD.out] at t2
  have hn2 := hide (show n2 = 63 by rw [← t2.len]; exact FL.out)
  have hb2 := hide (Below.then_ h1.below t2.below)
  go_wp2_with fail
  refine (TParse_any w2 A2 n2 c2 D.bytes t2.bys (by have := hn2.out; omega)).mono ?_
  rintro e w3 ⟨V, rfl, hd0, hf, hs0, hb3⟩
  rw [FP.out] at hd0 ⊢
  have hd := hide hd0
  have hs := hide hs0
  have HB3 := hide (Below.then_ hb2.out hb3)
  have T0 := hide (Blk.new w3 37 zeroV.cells)
  have HF := hide hf
  have hI := isTx
  clear h1 t2 f2 hn2 hb2 hd0 hs0 hf hb3
  go_wp2_with (first
    | (refine wpList_alloc_agg rfl 37 rfl zeroV.cells zeroTx_info ?_; simp only [Act.put, List.setIfInBounds_toArray, List.set_cons_zero, List.set_cons_succ])
    | (refine wpList_store_blk rfl 37 _ _ rfl w3.heap.size 0 37 zeroV.cells V.cells (by rfl) (by rfl) T0.out (Nat.le_refl _) (by exact hI) (TxV.one V) ?_; intro w4 o4 z4 b4; rw [lay_all zeroV.cells V.cells (by rfl)] at b4; have T4 := hide b4; have hb4 : Below w3.heap.size w3 w4 := Below.trans ((Below.refl _ w3).alloc (Nat.le_refl _) _) (o4.below (by simp) (fun i hi e => by have h9 : i = w3.heap.size := e; omega)); have HV := hide (HF.out.below hb4); have HB4 := hide (Below.then_ HB3.out hb4); clear o4 z4 b4 hb4; simp only [Act.put]))
  refine wp_region_held_drew (S := fun w' => Below w4.heap.size w4 w') (by kernel_rfl) (by exact (Below.refl _ _).drew) (fun hSA0 => ?_)
  obtain ⟨w4d, hwA⟩ : ∃ x, x = w4.drew := ⟨_, rfl⟩
  rw [← hwA] at hSA0 ⊢
  have hDA : Below w4.heap.size w4 w4d := by rw [hwA]; exact (Below.refl _ _).drew
  clear hwA
  refine wpAnyH_ready (rs := [0]) (by kernel_rfl) (by simp) ?_
  refine AllReadyH.cons rfl (fun K hK => ?_) AllReadyH.nil
  go_simp
  go_wp2_with (go_at_call 97; refine (base_any w4d).mono ?_; rintro e w5 ⟨l5, i5, k5, o5, rfl, h5⟩)
  refine hK.out _ _ (Below.then_ hSA0 h5.below) (fun hSA1 => ?_)
  clear hK K
  refine wpAnyH_ready (rs := [1]) (by kernel_rfl) (by simp) ?_
  refine AllReadyH.cons rfl (fun K hK => ?_) AllReadyH.nil
  go_simp
  go_wp2_with (go_at_call 61; refine (TCheck_any w5 (baseV l5 i5 k5 o5) h5.fine (baseV_small _ _ _ _)).mono ?_; rintro e w6 ⟨rfl, b6⟩; rw [FD.out, FC.out])
  refine hK.out _ _ (Below.then_ hSA1 b6) (fun hSA2 => ?_)
  clear hK K
  (refine wpAnyH_take (i := 2) (oi := ⟨some 11, .binOp .eql 69 (.tmp 10) (.const (.int .i64 0)) 69, 4, "law.go:20", #[⟨1, .data⟩], none⟩) (v := ?_) rfl (by kernel_rfl) (by kernel_rfl) (by kernel_rfl) (fun _ _ _ h => h) (Or.inl ⟨by rfl, fun w' hSw => ?_⟩) hSA2 ?_; rotate_left; focus (go_simp; try with_reducible rfl))
  simp only [Act.put, List.setIfInBounds_toArray, List.set_cons_zero, List.set_cons_succ]
  (refine wpAnyH_take (i := 3) (oi := ⟨some 12, .move (.tmp 11), 4, "law.go:20", #[⟨2, .data⟩, ⟨1, .chain⟩], none⟩) (v := ?_) rfl (by kernel_rfl) (by kernel_rfl) (by kernel_rfl) (fun _ _ _ h => h) (Or.inl ⟨by rfl, fun w' hSw => ?_⟩) hSA2 ?_; rotate_left; focus (go_simp; try with_reducible rfl))
  simp only [Act.put, List.setIfInBounds_toArray, List.set_cons_zero, List.set_cons_succ]
  refine wpAnyH_ready (rs := [4]) (by kernel_rfl) (by simp) ?_
  refine AllReadyH.cons rfl (fun K hK => ?_) AllReadyH.nil
  go_simp
  go_wp2_with (go_at_call 97; refine (base_any w6).mono ?_; rintro e w7 ⟨l7, i7, k7, o7, rfl, h7⟩)
  refine hK.out _ _ (Below.then_ hSA2 h7.below) (fun hSA3 => ?_)
  clear hK K
  refine wpAnyH_ready (rs := [5]) (by kernel_rfl) (by simp) ?_
  refine AllReadyH.cons rfl (fun K hK => ?_) AllReadyH.nil
  go_simp
  go_wp2_with (go_at_call 63; refine (TBase_any w7 (baseV l7 i7 k7 o7) h7.fine (baseV_small _ _ _ _)).mono ?_; rintro e w8 ⟨rfl, b8⟩; rw [base_base])
  refine hK.out _ _ (Below.then_ hSA3 b8) (fun hSA4 => ?_)
  clear hK K
  (refine wpAnyH_take (i := 6) (oi := ⟨some 15, .pick (.tmp 12) (.tmp 14) (.const (.bool Bool.false)), 4, "law.go:20", #[⟨3, .data⟩, ⟨5, .data⟩], none⟩) (v := ?_) rfl (by kernel_rfl) (by kernel_rfl) (by kernel_rfl) (fun _ _ _ h => h) (Or.inl ⟨by rfl, fun w' hSw => ?_⟩) hSA4 ?_; rotate_left; focus (go_simp; try with_reducible rfl))
  simp only [Act.put, List.setIfInBounds_toArray, List.set_cons_zero, List.set_cons_succ]
  (refine wpAnyH_take (i := 7) (oi := ⟨some 16, .move (.tmp 15), 4, "law.go:20", #[⟨6, .data⟩, ⟨5, .chain⟩], none⟩) (v := ?_) rfl (by kernel_rfl) (by kernel_rfl) (by kernel_rfl) (fun _ _ _ h => h) (Or.inl ⟨by rfl, fun w' hSw => ?_⟩) hSA4 ?_; rotate_left; focus (go_simp; try with_reducible rfl))
  simp only [Act.put, List.setIfInBounds_toArray, List.set_cons_zero, List.set_cons_succ]
  (refine wpAnyH_take (i := 8) (oi := ⟨some 17, .move (.tmp 2), 69, "law.go:20", #[⟨7, .guard⟩], some (7, true)⟩) (v := ?_) rfl (by kernel_rfl) (by kernel_rfl) (by kernel_rfl) (fun _ _ _ h => h) (Or.inl ⟨by rfl, fun w' hSw => ?_⟩) hSA4 ?_; rotate_left; focus (go_simp; try with_reducible rfl))
  simp only [Act.put, List.setIfInBounds_toArray, List.set_cons_zero, List.set_cons_succ]
  (refine wpAnyH_take (i := 9) (oi := ⟨some 18, .binOp .eql 69 (.tmp 17) (.const (.int .i64 0)) 69, 4, "law.go:20", #[⟨8, .data⟩, ⟨7, .guard⟩], some (7, true)⟩) (v := ?_) rfl (by kernel_rfl) (by kernel_rfl) (by kernel_rfl) (fun _ _ _ h => h) (Or.inl ⟨by rfl, fun w' hSw => ?_⟩) hSA4 ?_; rotate_left; focus (go_simp; try with_reducible rfl))
  simp only [Act.put, List.setIfInBounds_toArray, List.set_cons_zero, List.set_cons_succ]
  (refine wpAnyH_take (i := 10) (oi := ⟨some 19, .pick (.tmp 16) (.tmp 18) (.const (.bool Bool.false)), 4, "law.go:20", #[⟨7, .data⟩, ⟨9, .data⟩], none⟩) (v := ?_) rfl (by kernel_rfl) (by kernel_rfl) (by kernel_rfl) (fun _ _ _ h => h) (Or.inl ⟨by rfl, fun w' hSw => ?_⟩) hSA4 ?_; rotate_left; focus (go_simp; try with_reducible rfl))
  simp only [Act.put, List.setIfInBounds_toArray, List.set_cons_zero, List.set_cons_succ]
  (refine wpAnyH_take (i := 11) (oi := ⟨some 20, .move (.tmp 19), 4, "law.go:20", #[⟨10, .data⟩, ⟨7, .chain⟩], none⟩) (v := ?_) rfl (by kernel_rfl) (by kernel_rfl) (by kernel_rfl) (fun _ _ _ h => h) (Or.inl ⟨by rfl, fun w' hSw => ?_⟩) hSA4 ?_; rotate_left; focus (go_simp; try with_reducible rfl))
  simp only [Act.put, List.setIfInBounds_toArray, List.set_cons_zero, List.set_cons_succ]
  (refine wpAnyH_take (i := 12) (oi := ⟨some 21, .load 37 (.tmp 1), 37, "law.go:20", #[⟨11, .guard⟩], some (11, true)⟩) (v := ?_) rfl (by kernel_rfl) (by kernel_rfl) (by kernel_rfl) (fun _ _ _ h => h) (Or.inl ⟨by rfl, fun w' hSw => ?_⟩) hSA4 ?_; rotate_left; focus (have lt := loadTx_run w' w3.heap.size 0 V (range_under T4.out.whole hSw); go_simp; try with_reducible rfl))
  simp only [Act.put, List.setIfInBounds_toArray, List.set_cons_zero, List.set_cons_succ]
  refine wpAnyH_ready (rs := [13]) (by kernel_rfl) (by simp) ?_
  refine AllReadyH.cons rfl (fun K hK => ?_) AllReadyH.nil
  go_simp
  go_wp2_with (go_at_call 97; refine (base_any w8).mono ?_; rintro e w9 ⟨l9, i9, k9, o9, rfl, h9⟩)
  refine hK.out _ _ (Below.then_ hSA4 h9.below) (fun hSA5 => ?_)
  clear hK K
  refine wpAnyH_ready (rs := [14]) (by kernel_rfl) (by simp) ?_
  refine AllReadyH.cons rfl (fun K hK => ?_) AllReadyH.nil
  go_simp
  go_wp2_with (go_at_call 57; refine (TSame_any w9 V (baseV l9 i9 k9 o9) (HV.out.below hSA5) h9.fine hs.out (baseV_small _ _ _ _)).mono ?_; rintro e w10 ⟨rfl, b10⟩; rw [FD.out, hd.out, FS.out])
  refine hK.out _ _ (Below.then_ hSA5 b10) (fun hSA6 => ?_)
  clear hK K
  (refine wpAnyH_take (i := 15) (oi := ⟨some 24, .pick (.tmp 20) (.tmp 23) (.const (.bool Bool.false)), 4, "law.go:20", #[⟨11, .data⟩, ⟨14, .data⟩], none⟩) (v := ?_) rfl (by kernel_rfl) (by kernel_rfl) (by kernel_rfl) (fun _ _ _ h => h) (Or.inl ⟨by rfl, fun w' hSw => ?_⟩) hSA6 ?_; rotate_left; focus (go_simp; try with_reducible rfl))
  simp only [Act.put, List.setIfInBounds_toArray, List.set_cons_zero, List.set_cons_succ]
  (refine wpAnyH_take (i := 16) (oi := ⟨some 25, .move (.tmp 24), 4, "law.go:20", #[⟨15, .data⟩, ⟨14, .chain⟩], none⟩) (v := ?_) rfl (by kernel_rfl) (by kernel_rfl) (by kernel_rfl) (fun _ _ _ h => h) (Or.inl ⟨by rfl, fun w' hSw => ?_⟩) hSA6 ?_; rotate_left; focus (go_simp; try with_reducible rfl))
  simp only [Act.put, List.setIfInBounds_toArray, List.set_cons_zero, List.set_cons_succ]
  (refine wpAnyH_take (i := 17) (oi := ⟨some 26, .load 37 (.tmp 1), 37, "law.go:20", #[⟨16, .guard⟩], some (16, true)⟩) (v := ?_) rfl (by kernel_rfl) (by kernel_rfl) (by kernel_rfl) (fun _ _ _ h => h) (Or.inl ⟨by rfl, fun w' hSw => ?_⟩) hSA6 ?_; rotate_left; focus (have lt := loadTx_run w' w3.heap.size 0 V (range_under T4.out.whole hSw); go_simp; try with_reducible rfl))
  simp only [Act.put, List.setIfInBounds_toArray, List.set_cons_zero, List.set_cons_succ]
  refine wpAnyH_ready (rs := [18]) (by kernel_rfl) (by simp) ?_
  refine AllReadyH.cons rfl (fun K hK => ?_) AllReadyH.nil
  go_simp
  go_wp2_with (go_at_call 59; refine (TId_any w10 V (HV.out.below hSA6) hs.out).mono ?_; rintro e w11 ⟨rfl, b11⟩; rw [hd.out, FX.out])
  refine hK.out _ _ (Below.then_ hSA6 b11) (fun hSA7 => ?_)
  clear hK K
  refine wpAnyH_ready (rs := [19]) (by kernel_rfl) (by simp) ?_
  refine AllReadyH.cons rfl (fun K hK => ?_) AllReadyH.nil
  go_simp
  go_wp2_with (go_at_call 97; refine (base_any w11).mono ?_; rintro e w12 ⟨l12, i12, k12, o12, rfl, h12⟩)
  refine hK.out _ _ (Below.then_ hSA7 h12.below) (fun hSA8 => ?_)
  clear hK K
  refine wpAnyH_ready (rs := [20]) (by kernel_rfl) (by simp) ?_
  refine AllReadyH.cons rfl (fun K hK => ?_) AllReadyH.nil
  go_simp
  go_wp2_with (go_at_call 59; refine (TId_any w12 (baseV l12 i12 k12 o12) h12.fine (baseV_small _ _ _ _)).mono ?_; rintro e w13 ⟨rfl, b13⟩; rw [FD.out, FX.out])
  refine hK.out _ _ (Below.then_ hSA8 b13) (fun hSA9 => ?_)
  clear hK K
  (refine wpAnyH_take (i := 21) (oi := ⟨some 30, .binOp .eql 31 (.tmp 27) (.tmp 29) 31, 4, "law.go:20", #[⟨18, .data⟩, ⟨20, .data⟩, ⟨16, .guard⟩], some (16, true)⟩) (v := ?_) rfl (by kernel_rfl) (by kernel_rfl) (by kernel_rfl) (fun _ _ _ h => h) (Or.inl ⟨by rfl, fun w' hSw => ?_⟩) hSA9 ?_; rotate_left; focus (have le := FE.out w'; go_simp; try with_reducible rfl))
  simp only [Act.put, List.setIfInBounds_toArray, List.set_cons_zero, List.set_cons_succ]
  (refine wpAnyH_take (i := 22) (oi := ⟨some 31, .pick (.tmp 25) (.tmp 30) (.const (.bool Bool.false)), 4, "law.go:20", #[⟨16, .data⟩, ⟨21, .data⟩], none⟩) (v := ?_) rfl (by kernel_rfl) (by kernel_rfl) (by kernel_rfl) (fun _ _ _ h => h) (Or.inl ⟨by rfl, fun w' hSw => ?_⟩) hSA9 ?_; rotate_left; focus (go_simp; try with_reducible rfl))
  simp only [Act.put, List.setIfInBounds_toArray, List.set_cons_zero, List.set_cons_succ]
  (refine wpAnyH_take (i := 23) (oi := ⟨some 32, .move (.tmp 31), 4, "law.go:20", #[⟨22, .data⟩, ⟨20, .chain⟩], none⟩) (v := ?_) rfl (by kernel_rfl) (by kernel_rfl) (by kernel_rfl) (fun _ _ _ h => h) (Or.inl ⟨by rfl, fun w' hSw => ?_⟩) hSA9 ?_; rotate_left; focus (go_simp; try with_reducible rfl))
  simp only [Act.put, List.setIfInBounds_toArray, List.set_cons_zero, List.set_cons_succ]
  (refine wpAnyH_take (i := 24) (oi := ⟨some 33, .load 37 (.tmp 1), 37, "law.go:20", #[⟨23, .guard⟩], some (23, true)⟩) (v := ?_) rfl (by kernel_rfl) (by kernel_rfl) (by kernel_rfl) (fun _ _ _ h => h) (Or.inl ⟨by rfl, fun w' hSw => ?_⟩) hSA9 ?_; rotate_left; focus (have lt := loadTx_run w' w3.heap.size 0 V (range_under T4.out.whole hSw); go_simp; try with_reducible rfl))
  simp only [Act.put, List.setIfInBounds_toArray, List.set_cons_zero, List.set_cons_succ]
  (refine wpAnyH_take (i := 26) (oi := ⟨some 35, .build 31 #[], 31, "law.go:20", #[⟨23, .guard⟩], some (23, true)⟩) (v := ?_) rfl (by kernel_rfl) (by kernel_rfl) (by kernel_rfl) (fun _ _ _ h => h) (Or.inl ⟨by rfl, fun w' hSw => ?_⟩) hSA9 ?_; rotate_left; focus (go_simp; try with_reducible rfl))
  simp only [Act.put, List.setIfInBounds_toArray, List.set_cons_zero, List.set_cons_succ]
  refine wpAnyH_ready (rs := [25]) (by kernel_rfl) (by simp) ?_
  refine AllReadyH.cons rfl (fun K hK => ?_) AllReadyH.nil
  go_simp
  go_wp2_with (go_at_call 59; refine (TId_any w13 V (HV.out.below hSA9) hs.out).mono ?_; rintro e w14 ⟨rfl, b14⟩; rw [hd.out, FX.out])
  refine hK.out _ _ (Below.then_ hSA9 b14) (fun hSA10 => ?_)
  clear hK K
  (refine wpAnyH_take (i := 27) (oi := ⟨some 36, .binOp .neq 31 (.tmp 34) (.tmp 35) 31, 4, "law.go:20", #[⟨25, .data⟩, ⟨26, .data⟩, ⟨23, .guard⟩], some (23, true)⟩) (v := ?_) rfl (by kernel_rfl) (by kernel_rfl) (by kernel_rfl) (fun _ _ _ h => h) (Or.inl ⟨by rfl, fun w' hSw => ?_⟩) hSA10 ?_; rotate_left; focus (have le := FZ.out w'; go_simp; try with_reducible rfl))
  simp only [Act.put, List.setIfInBounds_toArray, List.set_cons_zero, List.set_cons_succ]
  (refine wpAnyH_take (i := 28) (oi := ⟨some 37, .pick (.tmp 32) (.tmp 36) (.const (.bool Bool.false)), 4, "law.go:20", #[⟨23, .data⟩, ⟨27, .data⟩], none⟩) (v := ?_) rfl (by kernel_rfl) (by kernel_rfl) (by kernel_rfl) (fun _ _ _ h => h) (Or.inl ⟨by rfl, fun w' hSw => ?_⟩) hSA10 ?_; rotate_left; focus (go_simp; try with_reducible rfl))
  simp only [Act.put, List.setIfInBounds_toArray, List.set_cons_zero, List.set_cons_succ]
  (refine wpAnyH_take (i := 29) (oi := ⟨some 0, .assign (.tmp 37), 4, "law.go:20", #[⟨28, .data⟩, ⟨25, .chain⟩, ⟨0, .phase⟩, ⟨1, .phase⟩, ⟨2, .phase⟩, ⟨3, .phase⟩, ⟨4, .phase⟩, ⟨5, .phase⟩, ⟨6, .phase⟩, ⟨7, .phase⟩, ⟨8, .phase⟩, ⟨9, .phase⟩, ⟨10, .phase⟩, ⟨11, .phase⟩, ⟨12, .phase⟩, ⟨13, .phase⟩, ⟨14, .phase⟩, ⟨15, .phase⟩, ⟨16, .phase⟩, ⟨17, .phase⟩, ⟨18, .phase⟩, ⟨19, .phase⟩, ⟨20, .phase⟩, ⟨21, .phase⟩, ⟨22, .phase⟩, ⟨23, .phase⟩, ⟨24, .phase⟩, ⟨25, .phase⟩, ⟨26, .phase⟩, ⟨27, .phase⟩, ⟨28, .phase⟩], none⟩) (v := ?_) rfl (by kernel_rfl) (by kernel_rfl) (by kernel_rfl) (fun _ _ _ h => h) (Or.inl ⟨by rfl, fun w' hSw => ?_⟩) hSA10 ?_; rotate_left; focus (go_simp; try with_reducible rfl))
  simp only [Act.put, List.setIfInBounds_toArray, List.set_cons_zero]
  refine wpAnyH_done (by kernel_rfl) ?_ _
  go_wp2_with fail
  go_ret
  exact ⟨rfl, Below.then_ HB4.out hSA10⟩
end Go.Proofs.Ytbpmcnfmgaolnaa
