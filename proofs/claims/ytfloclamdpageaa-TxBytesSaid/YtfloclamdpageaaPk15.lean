import Derived.Test.YtfloclamdpageaaPk10
import Derived.Test.YtfloclamdpageaaPk11
import Derived.Test.YtfloclamdpageaaPk4
import Derived.StillTailTactics
import Derived.Test.YtfloclamdpageaaPk14
import Derived.Test.YtfloclamdpageaaPk12
/-
  The document: null, Base, Check of transactions.
-/
namespace Go.Proofs.Ytfloclamdpageaa
open Go.RowKit

attribute [local go_sem ↓] loadIn_fold loadRef_fold loadTx_fold eqlRef_fold neqRef_fold mkRef_fold mkTx_fold
attribute [local go_sem] mkRef_null
set_option maxHeartbeats 1000000 in
set_option maxRecDepth 100000 in
theorem refnull_any (w : World) (r : RefD) (hr : r.Fine) : Calls Try.prog 81 #[.agg r.cells.toArray] w fun e w' => e = .returned (.bool (r.eqb nullR)) ∧ Below w.heap.size w w' := by
  have hld := loadRef_run (w.alloc (.cells r.cells.toArray 47)) w.heap.size 0 r (Blk.new w 47 r.cells).whole hr
  have heq := fun w => eqlRef_run r nullR hr nullR_fine w
  go_enter Try.func81, Try.ntmps81
  go_wp2_with fail
  go_ret
  exact ⟨by simp [RefD.eqb, Bool.decide_and], below_alloc (Below.refl _ _) _⟩
set_option maxHeartbeats 4000000 in
set_option maxRecDepth 100000 in
theorem refTBase_any (w : World) (t : TxV) (hf : t.Fine w) (hs : t.Small) :
    Calls Try.prog 55 #[.agg t.cells.toArray] w fun e w' => e = .returned (.bool (baseT (t.ins.map InV.d))) ∧ Below w.heap.size w w' := by
  obtain ⟨version, iA, iN, iC, ins, oA, oN, oC, outs, until_⟩ := t
  obtain ⟨_, _, hins, _, _, _⟩ := hf
  have hn := hs.ins
  simp only at hins hn
  have B0 := Blk.new w 65 [.int .u32 version, .slice iA iN iC, .slice oA oN oC, .int .u32 until_]
  have hb0 := hide (show Below w.heap.size w (w.alloc (.cells #[.int .u32 version, .slice iA iN iC, .slice oA oN oC, .int .u32 until_] 65)) from below_alloc (Below.refl _ _) _)
  show Calls _ _ #[.agg #[.int .u32 version, .slice iA iN iC, .slice oA oN oC, .int .u32 until_]] _ _
  have HI := hide (hins.below' hb0.out)
  clear hins
  by_cases h1 : iN = 1
  · subst h1
    obtain ⟨a, ha⟩ : ∃ a, ins[0]? = some a := ⟨_, List.getElem?_eq_getElem (by have := HI.out.1; omega)⟩
    have haf := hide (HI.out.2.1 a (List.mem_of_getElem? ha)).ref
    obtain ⟨b, off, rfl, hrow⟩ := HI.out.2.2 (by omega)
    have hra := hide (show (w.alloc (.cells #[.int .u32 version, .slice (some ⟨b, off, none⟩) 1 iC, .slice oA oN oC, .int .u32 until_] 65)).rangeAt b off a.ref.cells by have := InV.range_ref (hrow 0 a ha); simpa using this)
    have hone : ins = [a] := by
      have hl := HI.out.1
      rcases ins with _ | ⟨c, _ | ⟨d, l⟩⟩
      · simp at hl
      · simp at ha; rw [ha]
      · simp at hl
    have hres := hide (show baseT ((ins).map InV.d) = a.ref.eqb nullR by rw [hone]; rfl)
    have hc1 : (((1 : Nat) : Int) == 1) = true := by decide
    have hlr := loadRef_run _ b off a.ref hra.out haf.out
    clear hone ha hrow
    go_enter Try.func55, Try.ntmps55
    go_wp2_with fail
    refine (refnull_any _ a.ref haf.out).mono ?_
    rintro e w2 ⟨rfl, b2⟩
    go_wp2_with fail
    go_ret
    exact ⟨by rw [hres.out]; simp, Below.then_ hb0.out b2⟩
  · have hc1 : ((iN : Int) == 1) = false := by simp; omega
    have hres := hide (baseT_not (ins.map InV.d) (by rw [List.length_map, HI.out.1]; exact h1))
    go_enter Try.func55, Try.ntmps55
    go_wp2_with fail
    go_ret
    exact ⟨by rw [hres.out]; simp, hb0.out⟩
end Go.Proofs.Ytfloclamdpageaa
/-
  The document: Check of transactions.
-/
namespace Go.Proofs.Ytfloclamdpageaa
open Go.RowKit

theorem any_at {l : List InD} {k i : Nat} {a b : InD} (hk : l[k]? = some a) (hki : k < i) (h : a.ref.eqb b.ref = true) : ((l.take i).map (·.ref)).any (fun q => q.eqb b.ref) = true := by
  rw [List.any_eq_true]
  refine ⟨a.ref, List.mem_map.2 ⟨a, ?_, rfl⟩, h⟩
  have : (l.take i)[k]? = some a := by rw [List.getElem?_take, if_pos hki]; exact hk
  exact List.mem_of_getElem? this
theorem any_none {l : List InD} {i : Nat} {b : RefD} (h : ∀ q ∈ (l.take i).map (·.ref), q.eqb b = false) : ((l.take i).map (·.ref)).any (fun q => q.eqb b) = false := by
  rw [List.any_eq_false]
  intro q hq
  rw [h q hq]; decide
theorem none_step {l : List InD} {k : Nat} {a : InD} {b : RefD} (h : ∀ q ∈ (l.take k).map (·.ref), q.eqb b = false) (hk : l[k]? = some a) (ha : a.ref.eqb b = false) : ∀ q ∈ (l.take (k + 1)).map (·.ref), q.eqb b = false := by
  intro q hq
  rw [List.take_add_one, hk] at hq
  simp only [Option.toList_some, List.map_append, List.mem_append, List.map_cons, List.map_nil, List.mem_singleton] at hq
  rcases hq with hq | hq
  · exact h q hq
  · rw [hq]; exact ha
theorem TxV.at_ (t : TxV) (j : Nat) (a : InV) (h : t.ins[j]? = some a) : t.d.ins[j]? = some a.d := by
  show (t.ins.map InV.d)[j]? = _
  rw [List.getElem?_map, h]; rfl
def nullA : InD := ⟨nullR, [], 0⟩
attribute [local go_sem ↓] loadIn_fold loadRef_fold loadTx_fold eqlRef_fold neqRef_fold mkRef_fold mkTx_fold
set_option maxHeartbeats 8000000 in
set_option maxRecDepth 100000 in
theorem refTCheck_any (w : World) (t : TxV) (hf : t.Fine w) (hs : t.Small) :
    Calls Try.prog 54 #[.agg t.cells.toArray] w fun e w' => e = .returned (.int .i64 (checkT t.d)) ∧ Below w.heap.size w w' := by
  have T0 := Blk.new w 65 t.cells
  have hb0 : Below w.heap.size w (w.alloc (.cells t.cells.toArray 65)) := (Below.refl _ w).alloc (Nat.le_refl _) _
  have HF := hide (hf.below hb0)
  have HB0 := hide hb0
  have HS := hide hs
  have hil := hide (show t.d.ins.length = t.iN by show (t.ins.map InV.d).length = _; rw [List.length_map, hf.ins.1])
  have hol := hide (show t.d.outs.length = t.oN by show (t.outs.map OutV.d).length = _; rw [List.length_map, hf.outs.1])
  obtain ⟨w1, hw1⟩ : ∃ w1, w1 = w.alloc (.cells t.cells.toArray 65) := ⟨_, rfl⟩
  have hld := loadTx_run w1 w.heap.size 0 t (by rw [hw1]; exact T0.whole)
  rw [← hw1] at T0 HF HB0
  have x1 := T0.c1
  have x2 := T0.c2
  have HT := hide T0
  clear hf hs T0 hb0
  by_cases h1 : t.iN = 0
  · have hc1 : (t.iN : Int) < 1 := by omega
    have hres : checkT t.d = 101 := by unfold checkT; rw [if_pos (.inl (by rw [hil.out]; exact h1))]
    have HR := hide hres
    clear hres h1
    subst hw1
    go_enter Try.func54, Try.ntmps54
    go_wp2_with fail
    go_ret
    exact ⟨by rw [HR.out]; rfl, HB0.out⟩
  · have hc1 : ¬ (t.iN : Int) < 1 := by omega
    by_cases h2 : t.oN = 0
    · have hc2 : (t.oN : Int) < 1 := by omega
      have hres : checkT t.d = 101 := by unfold checkT; rw [if_pos (.inr (.inl (by rw [hol.out]; exact h2)))]
      have HR := hide hres
      clear hres h1 h2
      subst hw1
      go_enter Try.func54, Try.ntmps54
      go_wp2_with fail
      go_ret
      exact ⟨by rw [HR.out]; rfl, HB0.out⟩
    · have hc2 : ¬ (t.oN : Int) < 1 := by omega
      have h12 := hide (show ¬ (t.d.ins.length = 0) ∧ ¬ (t.d.outs.length = 0) by rw [hil.out, hol.out]; exact ⟨h1, h2⟩)
      clear h1 h2
      subst hw1
      go_enter Try.func54, Try.ntmps54
      go_wp2_with fail
      obtain ⟨w1, hw1⟩ : ∃ w1, w1 = w.alloc (.cells t.cells.toArray 65) := ⟨_, rfl⟩
      rw [← hw1] at HF HB0 HT x1 x2 hld ⊢
      clear hw1
      refine (refTBytes_any w1 t HF.out HS.out).mono ?_
      rintro e w2 ⟨A2, n2, c2, rfl, t2, f2⟩
      have hb2 := t2.below
      have HB2 := hide hb2
      have hl2 := hide t2.len
      have x2 := cell_under hb2 x2
      have x1 := cell_under hb2 x1
      clear t2 f2 hld
      by_cases h3 : 5000 < n2
      · have hc3 : (5000 : Int) < (n2 : Int) := by omega
        have hres : checkT t.d = 101 := by unfold checkT; rw [if_pos (.inr (.inr (by rw [hl2.out]; exact h3)))]
        have HR := hide hres
        clear hres h3
        go_wp2_with fail
        go_ret
        exact ⟨by rw [HR.out]; rfl, Below.then_ HB0.out HB2.out⟩
      · have hc3 : ¬ (5000 : Int) < (n2 : Int) := by omega
        have hres0 : checkT t.d = (if (sumFrom (t.d.outs.map (·.value)) 0).2 ≠ 0 then (sumFrom (t.d.outs.map (·.value)) 0).2
            else if dup [] t.d.ins = true then 101
            else if baseT t.d.ins = true then (if (t.d.ins.map (fun a => a.unlock.length)).headD 0 < 2 ∨ 100 < (t.d.ins.map (fun a => a.unlock.length)).headD 0 then 101 else 0)
            else if (t.d.ins.map (·.ref)).any (fun q => q.eqb nullR) = true then 101 else 0) := by
          unfold checkT
          rw [if_neg]
          rintro (h | h | h)
          · exact h12.out.1 h
          · exact h12.out.2 h
          · rw [hl2.out] at h; exact h3 h
        have HR0 := hide hres0
        clear hres0 h3
        go_wp2_with fail
        refine (refsum_any w2 t.oA t.oN t.oC t.outs (HF.out.outs.below' HB2.out) (by have := HS.out.outs; omega)).mono ?_
        rintro e w3 ⟨rfl, hb3⟩
        have hvs : t.outs.map (·.v) = t.d.outs.map (·.value) := by show _ = (t.outs.map OutV.d).map (·.value); rw [List.map_map]; rfl
        rw [hvs]
        obtain ⟨sm, hsm⟩ : ∃ sm, sm = sumFrom (t.d.outs.map (·.value)) 0 := ⟨_, rfl⟩
        rw [← hsm] at HR0 ⊢
        have x1 := cell_under hb3 x1
        have HB3 := hide (Below.then_ HB2.out hb3)
        clear hsm hvs hb3 hb2 x2
        by_cases h4 : sm.2 = 0
        · have hc4 : (sm.2 == 0) = true := by simp [h4]
          have hc4' : (sm.2 != 0) = false := by simp [h4]
          have HR1 := hide (HR0.out.trans (if_neg (fun h => h h4)))
          have HB30 := hide (Below.then_ HB0.out HB3.out)
          clear HR0 h4
          go_wp2_with fail
          go_loopw [37] (fun i wr => ∃ j : Nat, j ≤ t.iN ∧ i = .int .i64 (j : Int) ∧ dup [] t.d.ins = dup ((t.d.ins.take j).map (·.ref)) (t.d.ins.drop j) ∧ Below w3.heap.size w3 wr) (fun i _ => t.iN - (intOf i).toNat)
          case atStart => exact ⟨0, by omega, rfl, rfl, Below.refl _ _⟩
          case round =>
            rename World => wi
            obtain ⟨i, hi, rfl, hd, hbw⟩ := hrel
            have HD := hide hd
            have HBI := hide hbw
            have y1 := cell_under hbw x1
            clear x1
            by_cases hlt : i < t.iN
            · obtain ⟨a, ha⟩ : ∃ a, t.ins[i]? = some a := ⟨_, List.getElem?_eq_getElem (by have := HF.out.ins.1; omega)⟩
              have haf := HF.out.ins.2.1 a (List.mem_of_getElem? ha)
              obtain ⟨pa, oa, hpa, hra⟩ := HF.out.ins.2.2 (by omega)
              have HRA := hide hra
              have hdj := hide (dup_step t.d.ins i a.d (t.at_ i a ha))
              have HAT := hide ha
              have HAR := hide haf.ref
              have hj9 : (i : Int) ≤ 1000 := by have := HS.out.ins; omega
              have i0 : (0 : Int) ≤ (i : Int) := by omega
              have i1 : (i : Int) < (t.iN : Int) := by omega
              have HLT := hide hlt
              clear ha haf hra hd hbw hlt hi
              go_wp2_with fail
              go_loopw [6] (fun kk wr => ∃ k : Nat, k ≤ i ∧ kk = .int .i64 (k : Int) ∧ (∀ q ∈ (t.d.ins.take k).map (·.ref), q.eqb a.ref = false) ∧ Below w3.heap.size w3 wr) (fun kk _ => i - (intOf kk).toNat)
              case atStart => exact ⟨0, by omega, rfl, by simp, HBI.out⟩
              case round =>
                rename World => wk
                obtain ⟨k, hk, rfl, hno, hbw⟩ := hrel
                have HNO := hide hno
                have HBK := hide hbw
                by_cases hlt : k < i
                · obtain ⟨c, hc⟩ : ∃ c, t.ins[k]? = some c := ⟨_, List.getElem?_eq_getElem (by have := HF.out.ins.1; have := HLT.out; omega)⟩
                  have hcf := (HF.out.ins.2.1 c (List.mem_of_getElem? hc)).ref
                  have hb31 : Below w1.heap.size w1 wk := Below.then_ HB3.out hbw
                  have hl1 := loadRef_run wk pa (oa + i * 35) a.ref (by have := InV.range_ref (range_under (HRA.out i a HAT.out) hb31); exact this) HAR.out
                  have hl2' := loadRef_run wk pa (oa + k * 35) c.ref (by have := InV.range_ref (range_under (HRA.out k c hc) hb31); exact this) hcf
                  have hl3 := loadRef_run wk.drew pa (oa + i * 35) a.ref (by have := InV.range_ref (range_under (HRA.out i a HAT.out) hb31); exact this) HAR.out
                  have hl4 := loadRef_run wk.drew pa (oa + k * 35) c.ref (by have := InV.range_ref (range_under (HRA.out k c hc) hb31); exact this) hcf
                  have z1 : wk.cell? ⟨w.heap.size, 1, none⟩ = some (.slice t.iA t.iN t.iC) := (HT.out.under hb31).c1
                  have k0 : (0 : Int) ≤ (k : Int) := by omega
                  have k1 : (k : Int) < (t.iN : Int) := by have := HLT.out; omega
                  have k2 : (k : Int) < (i : Int) := by omega
                  have heq := fun w => eqlRef_run a.ref c.ref HAR.out hcf w
                  obtain ⟨BB, hBB⟩ : ∃ BB, BB = decide (a.ref.id = c.ref.id ∧ a.ref.at_ = c.ref.at_) := ⟨_, rfl⟩
                  rw [← hBB] at heq
                  have HBB := hide (show c.ref.eqb a.ref = BB by rw [hBB, RefD.eqb]; exact decide_eq_decide.2 ⟨fun h => ⟨h.1.symm, h.2.symm⟩, fun h => ⟨h.1.symm, h.2.symm⟩⟩)
                  have HCT := hide (t.at_ k c hc)
                  have HKI := hide hlt
                  rw [hpa] at z1
                  clear hBB hc hcf hno hbw hb31 hlt hk y1
                  cases BB with
                  | true =>
                    have HR := hide (HR1.out.trans (if_pos (by rw [HD.out, hdj.out, any_at (b := a.d) HCT.out HKI.out HBB.out]; rfl)))
                    go_wp2_with fail
                    go_still (by kernel_rfl)
                    change Exit.then _ _ _ _ wk.drew
                    have hfin := hide (HB30.out.trans ((HBK.out.mono HB30.out.size).drew))
                    go_wp2_with fail
                    go_ret
                    exact ⟨by rw [HR.out]; rfl, hfin.out⟩
                  | false =>
                    have HN := hide (none_step HNO.out HCT.out HBB.out)
                    go_wp2_with fail
                    go_still (by kernel_rfl)
                    change Exit.then _ _ _ _ wk.drew
                    have hfin := hide (HBK.out.drew)
                    go_wp2_with fail
                    exact ⟨⟨k + 1, by have := HKI.out; omega, by simp, HN.out, hfin.out⟩, by have := HKI.out; simp [intOf]; omega⟩
                · obtain rfl : k = i := by omega
                  have HDN := hide (show dup [] t.d.ins = dup ((t.d.ins.take (k + 1)).map (·.ref)) (t.d.ins.drop (k + 1)) by rw [HD.out, hdj.out, any_none (b := a.d.ref) HNO.out]; rfl)
                  have kk : ¬ (k : Int) < (k : Int) := by omega
                  clear hno hbw hlt hk
                  go_wp2_with fail
                  refine ⟨?_, by have := HLT.out; simp [intOf]; omega⟩
                  repeat apply Exists.intro
                  exact ⟨⟨k + 1, by have := HLT.out; omega, by simp, by first | exact HDN.out | (rw [← List.map_take]; exact HDN.out), HBK.out⟩, rfl, rfl, rfl, rfl⟩

            · have hje : t.iN = i := by omega
              have hdrop : t.d.ins.drop i = [] := List.drop_of_length_le (by rw [hil.out]; omega)
              rw [hdrop] at HD
              have HR2 := hide (HR1.out.trans (if_neg (by rw [HD.out]; simp [dup])))
              have hjn : ¬ (i : Int) < (t.iN : Int) := by omega
              have HB4 := hide (Below.then_ HB3.out HBI.out)
              have HB40 := hide (Below.then_ HB30.out HBI.out)
              obtain ⟨bb, hbb⟩ : ∃ bb, bb = baseT t.d.ins := ⟨_, rfl⟩
              rw [← hbb] at HR2
              have HBB := hide (show baseT (t.ins.map InV.d) = bb from hbb.symm)
              clear hd hbw hdrop HD HR1 hje hlt hi hbb
              cases bb with
              | true =>
                have HR3 := hide (HR2.out.trans (if_pos rfl))
                have hone : t.iN = 1 := by
                  apply Classical.byContradiction
                  intro h9
                  have h8 := baseT_not t.d.ins (by rw [hil.out]; exact h9)
                  have h7 : baseT t.d.ins = true := HBB.out
                  rw [h8] at h7
                  cases h7
                have HONE := hide hone
                have hone9 : (t.iN : Int) = 1 := by omega
                clear y1
                have y1 := (HT.out.under HB4.out).c1
                go_wp2_with fail
                go_loopw [62] (fun jj wr => ∃ j : Nat, j ≤ 1 ∧ jj = .int .i64 (j : Int) ∧ (j = 1 → checkT t.d = 0) ∧ Below wi.heap.size wi wr) (fun jj _ => 1 - (intOf jj).toNat)
                case atStart => exact ⟨0, by omega, rfl, by simp, Below.refl _ _⟩
                case round =>
                  rename World => wj
                  obtain ⟨j, hj, rfl, hok, hbw⟩ := hrel
                  have HOK := hide hok
                  have HBJ := hide hbw
                  by_cases hlt : j < 1
                  · obtain rfl : j = 0 := by omega
                    obtain ⟨a, ha⟩ : ∃ a, t.ins[0]? = some a := ⟨_, List.getElem?_eq_getElem (by have := HF.out.ins.1; have := HONE.out; omega)⟩
                    have haf := HF.out.ins.2.1 a (List.mem_of_getElem? ha)
                    obtain ⟨pa, oa, hpa, hra⟩ := HF.out.ins.2.2 (by have := HONE.out; omega)
                    have hbj : Below w1.heap.size w1 wj := Below.then_ HB4.out hbw
                    have hld := loadIn_run wj pa oa a (by have := range_under (hra 0 a ha) hbj; simpa using this) haf.ref
                    have la : a.cells.length = 35 := InV.cells_len haf.ref
                    have lz : zeroI.cells.length = 35 := rfl
                    have hI := isIn
                    have HAR := hide haf.ref
                    have KZ := hide (Blk.new wj 68 zeroI.cells)
                    have HBW := hide hbj
                    have hlist : t.ins = [a] := by
                      have hl := HF.out.ins.1
                      rw [HONE.out] at hl
                      match hti : t.ins, hl, ha with
                      | [b], _, ha => simp at ha; rw [ha]
                    have hhead : (t.d.ins.map (fun a => a.unlock.length)).headD 0 = a.n := by
                      show ((t.ins.map InV.d).map (fun a => a.unlock.length)).headD 0 = a.n
                      rw [hlist]
                      show a.bs.length = a.n
                      exact haf.bys.1
                    rw [hhead] at HR3
                    clear ha haf hra hlist hhead hok hbw hbj hlt hj hone HOK
                    rw [hpa]
                    by_cases h5 : a.n < 2
                    · have hc5 : (a.n : Int) < 2 := by omega
                      have HR := hide (HR3.out.trans (if_pos (.inl h5)))
                      clear h5 HR3
                      go_wp2_with (first
                        | (refine wpList_alloc_agg rfl 68 rfl zeroI.cells zeroIn_info ?_; simp only [Act.put, List.setIfInBounds_toArray, List.set_cons_zero, List.set_cons_succ])
                        | (refine wpList_store_blk rfl 68 _ _ rfl wj.heap.size 0 68 zeroI.cells a.cells (by rfl) (by rfl) KZ.out (by rw [lz, la]; decide) (by rw [hI, la]) (InV.one a) ?_; intro w5 o5 z5 b5; rw [lay_all zeroI.cells _ (by rw [lz, la])] at b5; have y33 := InV.c33 b5.whole HAR.out; have HZ5 := hide b5; have hbq : Below wj.heap.size wj w5 := (below_alloc (Below.refl _ wj) (.cells zeroI.cells.toArray 68)).trans (o5.below (by simp [World.size_alloc]) (fun i hi e => by have h9 : i = wj.heap.size := e; omega)); have HW5 := hide (Below.then_ HBW.out hbq); have HJ5 := hide (Below.then_ HBJ.out hbq); have l5 := loadTx_run w5 w.heap.size 0 t (HT.out.under HW5.out).whole; clear o5 z5 b5 hbq hld; simp only [Act.put]))
                      clear l5
                      refine (refTBase_any w5 t (HF.out.below HW5.out) HS.out).mono ?_
                      rintro e w6 ⟨rfl, b6⟩
                      rw [HBB.out]
                      have y33 := cell_under b6 y33
                      have HW6 := hide (Below.then_ HW5.out b6)
                      go_wp2_with fail
                      go_ret
                      exact ⟨by rw [HR.out]; rfl, Below.then_ HB0.out HW6.out⟩
                    · have hc5 : ¬ (a.n : Int) < 2 := by omega
                      by_cases h6 : 100 < a.n
                      · have hc6 : (100 : Int) < (a.n : Int) := by omega
                        have HR := hide (HR3.out.trans (if_pos (.inr h6)))
                        clear h5 h6 HR3
                        go_wp2_with (first
                          | (refine wpList_alloc_agg rfl 68 rfl zeroI.cells zeroIn_info ?_; simp only [Act.put, List.setIfInBounds_toArray, List.set_cons_zero, List.set_cons_succ])
                          | (refine wpList_store_blk rfl 68 _ _ rfl wj.heap.size 0 68 zeroI.cells a.cells (by rfl) (by rfl) KZ.out (by rw [lz, la]; decide) (by rw [hI, la]) (InV.one a) ?_; intro w5 o5 z5 b5; rw [lay_all zeroI.cells _ (by rw [lz, la])] at b5; have y33 := InV.c33 b5.whole HAR.out; have HZ5 := hide b5; have hbq : Below wj.heap.size wj w5 := (below_alloc (Below.refl _ wj) (.cells zeroI.cells.toArray 68)).trans (o5.below (by simp [World.size_alloc]) (fun i hi e => by have h9 : i = wj.heap.size := e; omega)); have HW5 := hide (Below.then_ HBW.out hbq); have HJ5 := hide (Below.then_ HBJ.out hbq); have l5 := loadTx_run w5 w.heap.size 0 t (HT.out.under HW5.out).whole; clear o5 z5 b5 hbq hld; simp only [Act.put]))
                        clear l5
                        refine (refTBase_any w5 t (HF.out.below HW5.out) HS.out).mono ?_
                        rintro e w6 ⟨rfl, b6⟩
                        rw [HBB.out]
                        have y33 := cell_under b6 y33
                        have HW6 := hide (Below.then_ HW5.out b6)
                        go_wp2_with fail
                        go_ret
                        exact ⟨by rw [HR.out]; rfl, Below.then_ HB0.out HW6.out⟩
                      · have hc6 : ¬ (100 : Int) < (a.n : Int) := by omega
                        have HR := hide (HR3.out.trans (if_neg (by rintro (h | h); exact h5 h; exact h6 h)))
                        clear h5 h6 HR3
                        go_wp2_with (first
                          | (refine wpList_alloc_agg rfl 68 rfl zeroI.cells zeroIn_info ?_; simp only [Act.put, List.setIfInBounds_toArray, List.set_cons_zero, List.set_cons_succ])
                          | (refine wpList_store_blk rfl 68 _ _ rfl wj.heap.size 0 68 zeroI.cells a.cells (by rfl) (by rfl) KZ.out (by rw [lz, la]; decide) (by rw [hI, la]) (InV.one a) ?_; intro w5 o5 z5 b5; rw [lay_all zeroI.cells _ (by rw [lz, la])] at b5; have y33 := InV.c33 b5.whole HAR.out; have HZ5 := hide b5; have hbq : Below wj.heap.size wj w5 := (below_alloc (Below.refl _ wj) (.cells zeroI.cells.toArray 68)).trans (o5.below (by simp [World.size_alloc]) (fun i hi e => by have h9 : i = wj.heap.size := e; omega)); have HW5 := hide (Below.then_ HBW.out hbq); have HJ5 := hide (Below.then_ HBJ.out hbq); have l5 := loadTx_run w5 w.heap.size 0 t (HT.out.under HW5.out).whole; clear o5 z5 b5 hbq hld; simp only [Act.put]))
                        clear l5
                        refine (refTBase_any w5 t (HF.out.below HW5.out) HS.out).mono ?_
                        rintro e w6 ⟨rfl, b6⟩
                        rw [HBB.out]
                        have y33 := cell_under b6 y33
                        have HW6 := hide (Below.then_ HW5.out b6)
                        have HJ6 := hide (Below.then_ HJ5.out b6)
                        have l6 := loadTx_run w6 w.heap.size 0 t (HT.out.under HW6.out).whole
                        clear b6
                        go_wp2_with fail
                        refine (refTBase_any w6 t (HF.out.below HW6.out) HS.out).mono ?_
                        rintro e w7 ⟨rfl, b7⟩
                        rw [HBB.out]
                        have HJ7 := hide (Below.then_ HJ6.out b7)
                        clear b7 l6 y33
                        go_wp2_with fail
                        exact ⟨⟨1, by omega, rfl, fun _ => HR.out, HJ7.out⟩, by simp [intOf]⟩
                  · obtain rfl : j = 1 := by omega
                    have hfin := hide (Below.then_ HB40.out hbw)
                    clear hok hbw hlt hj
                    go_wp2_with fail
                    go_ret
                    exact ⟨by rw [HOK.out (by first | rfl | trivial)]; rfl, hfin.out⟩
              | false =>
                have HR3 := hide (HR2.out.trans (if_neg (by simp)))
                clear y1
                have y1 := (HT.out.under HB4.out).c1
                go_wp2_with fail
                go_loopw [62] (fun jj wr => ∃ j : Nat, j ≤ t.iN ∧ jj = .int .i64 (j : Int) ∧ (∀ q ∈ (t.d.ins.take j).map (·.ref), q.eqb nullR = false) ∧ Below wi.heap.size wi wr) (fun jj _ => t.iN - (intOf jj).toNat)
                case atStart => exact ⟨0, by omega, rfl, by simp, Below.refl _ _⟩
                case round =>
                  rename World => wj
                  obtain ⟨j, hj, rfl, hno, hbw⟩ := hrel
                  have HNO := hide hno
                  have HBJ := hide hbw
                  by_cases hlt : j < t.iN
                  · obtain ⟨a, ha⟩ : ∃ a, t.ins[j]? = some a := ⟨_, List.getElem?_eq_getElem (by have := HF.out.ins.1; omega)⟩
                    have haf := HF.out.ins.2.1 a (List.mem_of_getElem? ha)
                    obtain ⟨pa, oa, hpa, hra⟩ := HF.out.ins.2.2 (by omega)
                    have hbj : Below w1.heap.size w1 wj := Below.then_ HB4.out hbw
                    have hld := loadIn_run wj pa (oa + j * 35) a (range_under (hra j a ha) hbj) haf.ref
                    have la : a.cells.length = 35 := InV.cells_len haf.ref
                    have lz : zeroI.cells.length = 35 := rfl
                    have hI := isIn
                    have HAR := hide haf.ref
                    have KZ := hide (Blk.new wj 68 zeroI.cells)
                    have HBW := hide hbj
                    have HAT := hide (t.at_ j a ha)
                    have i0 : (0 : Int) ≤ (j : Int) := by omega
                    have i1 : (j : Int) < (t.iN : Int) := by omega
                    have hj9 : (j : Int) ≤ 1000 := by have := HS.out.ins; omega
                    have HLT := hide hlt
                    obtain ⟨nn, hnn⟩ : ∃ nn, nn = a.ref.eqb nullR := ⟨_, rfl⟩
                    have HNN := hide hnn.symm
                    clear ha haf hra hno hbw hbj hlt hj hnn
                    rw [hpa]
                    go_wp2_with (first
                      | (refine wpList_alloc_agg rfl 68 rfl zeroI.cells zeroIn_info ?_; simp only [Act.put, List.setIfInBounds_toArray, List.set_cons_zero, List.set_cons_succ])
                      | (refine wpList_store_blk rfl 68 _ _ rfl wj.heap.size 0 68 zeroI.cells a.cells (by rfl) (by rfl) KZ.out (by rw [lz, la]; decide) (by rw [hI, la]) (InV.one a) ?_; intro w5 o5 z5 b5; rw [lay_all zeroI.cells _ (by rw [lz, la])] at b5; have y33 := InV.c33 b5.whole HAR.out; have HZ5 := hide b5; have hbq : Below wj.heap.size wj w5 := (below_alloc (Below.refl _ wj) (.cells zeroI.cells.toArray 68)).trans (o5.below (by simp [World.size_alloc]) (fun i hi e => by have h9 : i = wj.heap.size := e; omega)); have HW5 := hide (Below.then_ HBW.out hbq); have HJ5 := hide (Below.then_ HBJ.out hbq); have l5 := loadTx_run w5 w.heap.size 0 t (HT.out.under HW5.out).whole; clear o5 z5 b5 hbq hld; simp only [Act.put]))
                    clear l5
                    refine (refTBase_any w5 t (HF.out.below HW5.out) HS.out).mono ?_
                    rintro e w6 ⟨rfl, b6⟩
                    rw [HBB.out]
                    have HW6 := hide (Below.then_ HW5.out b6)
                    have HJ6 := hide (Below.then_ HJ5.out b6)
                    have HZ6 := hide (HZ5.out.under b6)
                    have l6 := loadTx_run w6 w.heap.size 0 t (HT.out.under HW6.out).whole
                    clear b6 y33
                    go_wp2_with fail
                    refine (refTBase_any w6 t (HF.out.below HW6.out) HS.out).mono ?_
                    rintro e w7 ⟨rfl, b7⟩
                    rw [HBB.out]
                    have HJ7 := hide (Below.then_ HJ6.out b7)
                    have lr := loadRef_run w7 wj.heap.size 0 a.ref (InV.range_ref (HZ6.out.under b7).whole) HAR.out
                    clear b7 l6
                    go_wp2_with fail
                    refine (refnull_any w7 a.ref HAR.out).mono ?_
                    rintro e w8 ⟨rfl, b8⟩
                    rw [HNN.out]
                    have HJ8 := hide (Below.then_ HJ7.out b8)
                    clear b8 lr
                    cases nn with
                    | true =>
                      have HR := hide (HR3.out.trans (if_pos (any_at (b := nullA) HAT.out (Nat.lt_of_lt_of_le HLT.out (Nat.le_refl _)) HNN.out |> fun h => by rw [List.take_of_length_le (by rw [hil.out]; exact Nat.le_refl _)] at h; exact h)))
                      go_wp2_with fail
                      go_ret
                      exact ⟨by rw [HR.out]; rfl, Below.then_ HB40.out HJ8.out⟩
                    | false =>
                      have HN := hide (none_step HNO.out HAT.out HNN.out)
                      go_wp2_with fail
                      exact ⟨⟨j + 1, by have := HLT.out; omega, by simp, HN.out, HJ8.out⟩, by have := HLT.out; simp [intOf]; omega⟩
                  · have hje : t.iN = j := by omega
                    have hall := any_none hno
                    rw [List.take_of_length_le (by rw [hil.out]; omega)] at hall
                    have HR := hide (HR3.out.trans (if_neg (by rw [hall]; decide)))
                    have hjn : ¬ (j : Int) < (t.iN : Int) := by omega
                    have hfin := hide (Below.then_ HB40.out hbw)
                    clear hno hbw hlt hj hje hall
                    go_wp2_with fail
                    go_ret
                    exact ⟨by rw [HR.out]; rfl, hfin.out⟩
        · have hc4 : (sm.2 == 0) = false := by simp [h4]
          have hc4' : (sm.2 != 0) = true := by simp [h4]
          have HR := hide (HR0.out.trans (if_pos h4))
          go_wp2_with fail
          go_ret
          exact ⟨by rw [HR.out]; rfl, Below.then_ HB0.out HB3.out⟩
end Go.Proofs.Ytfloclamdpageaa
/-
  What is signed: plain; rows of Ins of one's own, changed in place; the program's Hash.
-/
namespace Go.Proofs.Ytfloclamdpageaa
open Go.RowKit

/-- What is signed of an In. -/
def InD.bare (a : InD) (k : Nat) (i : Int) (lock : List Int) : InD := ⟨a.ref, if (k : Int) = i then lock else [], a.order⟩
def signT (t : TxD) (i : Int) (lock : List Int) : TxD := ⟨t.version, t.ins.mapIdx fun k a => a.bare k i lock, t.outs, t.until_⟩
def hashT (t : TxD) (i : Int) (lock : List Int) : List Int := sha2 ((signT t i lock).bytes ++ dig (i % 4294967296).toNat 4)
theorem hashT_len (t : TxD) (i : Int) (lock : List Int) : (hashT t i lock).length = 32 := sha2_len _
/-- In memory: its unlock another. -/
def InV.with (a : InV) (B : Option Addr) (m d : Nat) (bs : List Int) : InV := ⟨a.ref, B, m, d, bs, a.order⟩
theorem InV.with_cells (a : InV) (h : a.ref.Fine) (B : Option Addr) (m d : Nat) (bs : List Int) : (a.with B m d bs).cells = a.cells.set 33 (.slice B m d) := by
  simp only [InV.with, InV.cells]
  rw [List.set_append_right _ _ (by rw [RefD.cells_len h]; exact Nat.le_refl _), RefD.cells_len h]
  rfl
theorem flatMap_set {α : Type} (f : α → List Value) (K : Nat) : ∀ (xs : List α) (k j : Nat) (a a' : α) (v : Value), (∀ x ∈ xs, (f x).length = K) → xs[k]? = some a → j < K → f a' = (f a).set j v → (xs.flatMap f).set (k * K + j) v = (xs.set k a').flatMap f
  | [], k, j, a, a', v, _, h, _, _ => by simp at h
  | x :: xs, 0, j, a, a', v, hl, h, hj, hf => by
    simp at h; subst h
    rw [List.flatMap_cons, List.set_cons_zero, List.flatMap_cons, Nat.zero_mul, Nat.zero_add, List.set_append_left _ _ (by rw [hl x (by simp)]; exact hj), hf]
  | x :: xs, k + 1, j, a, a', v, hl, h, hj, hf => by
    simp at h
    rw [List.flatMap_cons, List.set_cons_succ, List.flatMap_cons, List.set_append_right _ _ (by rw [hl x (by simp), Nat.succ_mul]; omega), hl x (by simp)]
    rw [show (k + 1) * K + j - K = k * K + j by rw [Nat.succ_mul]; omega]
    rw [flatMap_set f K xs k j a a' v (fun y hy => hl y (by simp [hy])) h hj hf]
/-- A block whose beginning is a row. -/
def RowB (w : World) (g : Nat) (e : TypeId) (cs : List Value) : Prop := ∃ l, Blk w g e l ∧ l.take cs.length = cs
theorem RowB.cell {w : World} {g : Nat} {e : TypeId} {cs : List Value} (h : RowB w g e cs) (i : Nat) (v : Value) (hv : cs[i]? = some v) : w.cell? ⟨g, i, none⟩ = some v := by
  obtain ⟨l, hb, ht⟩ := h
  rw [hb.cell]
  have hi : i < cs.length := (List.getElem?_eq_some_iff.1 hv).1
  rw [← ht, List.getElem?_take, if_pos hi] at hv
  exact hv
theorem RowB.frozen {w : World} {g : Nat} {e : TypeId} {cs : List Value} (h : RowB w g e cs) (i : Nat) : w.frozen? ⟨g, i, none⟩ = false := by
  obtain ⟨l, hb, _⟩ := h
  exact hb.frozen i
theorem RowB.set_ {w : World} {g : Nat} {e : TypeId} {cs : List Value} (h : RowB w g e cs) (i : Nat) (v : Value) : RowB (w.setCell ⟨g, i, none⟩ v) g e (cs.set i v) := by
  obtain ⟨l, hb, ht⟩ := h
  refine ⟨l.set i v, hb.set_ i v, ?_⟩
  rw [List.length_set, List.take_set, ht]
theorem RowB.range {w : World} {g : Nat} {e : TypeId} {cs : List Value} (h : RowB w g e cs) : w.rangeAt g 0 cs := fun j v hv => by
  rw [Nat.zero_add]; exact h.cell j v hv
theorem RowB.under {w w' : World} {g : Nat} {e : TypeId} {cs : List Value} (h : RowB w g e cs) (hb : Below w.heap.size w w') : RowB w' g e cs := by
  obtain ⟨l, hbk, ht⟩ := h
  exact ⟨l, hbk.under hb, ht⟩
theorem RowB.only {w w' : World} {g : Nat} {e : TypeId} {cs : List Value} {F : Nat → Prop} (h : RowB w g e cs) (ho : Only F w w') (hg : ¬ F g) : RowB w' g e cs := by
  obtain ⟨l, hbk, ht⟩ := h
  exact ⟨l, ho.blk hbk hg, ht⟩
theorem RowB.lt {w : World} {g : Nat} {e : TypeId} {cs : List Value} (h : RowB w g e cs) : g < w.heap.size := by
  obtain ⟨l, hbk, _⟩ := h
  exact hbk.lt
section
variable {P : Program}
/-- An append to a row of one's own, of a slice at any address. -/
theorem wpList_mineRa {w : World} {ops : Array Oper} {rest : List Oper} {o : Oper} {a : Act} {Q : Exit → Act → World → Prop} (hgd : o.guard = none) (s x : Operand) (t : TypeId)
    (ho : o.op = .call { callee := .builtin .append, args := #[s, x], argTypes := #[t, t] })
    (e : TypeId) (k by_ : Nat) (ht : P.underlying t = some (.slice e)) (hi : (P.info? e).map (fun i => (i.size, i.bytes, i.zero.map (fun z => z.cells.size))) = some (k, by_, some k)) (hk : 0 < k)
    (w0 : World) (v : Value) (n : Nat) (cs : List Value) (hs : a.eval s = v) (h : MineR e k w0 w v n cs)
    (ad : Addr) (m c : Nat) (news : List Value) (hx : a.eval x = .slice (some ad) m c) (hl : news.length = m * k) (hnews : ∀ (j : Nat) (u : Value), news[j]? = some u → w.cell? (ad.add j) = some u) (h1 : ∀ u ∈ news, u.oneCell' = true)
    (hbytes : (n + m) * by_ ≤ 140737488355328) (hby : 0 < by_)
    (hK : ∀ A' c' w', MineR e k w0 w' (.slice A' (n + m) c') (n + m) (cs ++ news) → (∀ g, (Value.slice A' (n + m) c').ownBlock = some g → v.ownBlock = some g ∨ w.heap.size ≤ g) → Only (fun i => v.ownBlock = some i) w w' → wpList P ops Q rest (a.put o.dst (.slice A' (n + m) c')) w') : wpList P ops Q (o :: rest) a w := by
  obtain ⟨i, z, hi1, hz, hsz, hbb, hzs⟩ : ∃ i z, P.info? e = some i ∧ i.zero = some z ∧ i.size = k ∧ i.bytes = by_ ∧ z.cells.size = k := by
    cases hq : P.info? e with
    | none => simp [hq] at hi
    | some i =>
      cases hz : i.zero with
      | none => simp [hq, hz] at hi
      | some z =>
        simp [hq, hz] at hi
        exact ⟨i, z, rfl, hz, hi.1, hi.2.1, hi.2.2⟩
  have hn : n + m ≤ 140737488355328 := Nat.le_trans (Nat.le_mul_of_pos_right _ hby) hbytes
  refine wpList_plain hgd fun _ hK' => ?_
  obtain ⟨v', w', hrun, o1, g1, _, hat⟩ := run_append_own_at (P := P) w w0.heap.size t o.type e i z k by_ ht hi1 hz hsz hbb hzs hk v n cs h.2 ad m c news hl hnews h1 (by simp only [maxLen]; omega) hbytes h.1.size
  have hm : MineR e k w0 w' v' (n + m) (cs ++ news) := ⟨h.1.grown g1 h.1.size (fun g hg => (h.2.lt g hg).1), o1⟩
  obtain ⟨A', c', rfl, _⟩ := hm.rows hk
  unfold Oper.wp execOp
  simp only [ho, resolve, invoke, builtin, Sem.run_bind, Sem.run_pure, Result.andThen_ok, List.map_toArray, List.map_cons, List.map_nil, hs, hx, hrun]
  refine hK' _ _ (hK A' c' w' hm (fun g hg => ?_) ((Only.refl _ w).grown g1 (fun g hg => .inr hg)))
  rcases hat with h1 | h1
  · left; rw [← h1]; exact hg
  · right; rw [h1] at hg; injection hg with hg; omega
end
/-- The row of one's own, as a block. -/
theorem MineR.rowB {e : TypeId} {k : Nat} {w0 w : World} {A : Option Addr} {n c : Nat} {cs : List Value} (h : MineR e k w0 w (.slice A n c) n cs) (hn : 0 < n) : ∃ g : Nat, A = some ⟨g, 0, none⟩ ∧ w0.heap.size ≤ g ∧ RowB w g e cs := by
  rcases h.2.2 with ⟨_, h0⟩ | ⟨g, cap, cur, e1, hb, hh, hnc, hcm, _, htake⟩
  · omega
  · injection e1 with e1 _ _
    have hc : Blk w g e cur.toList := by simpa [Blk] using hh
    exact ⟨g, e1, hb, cur.toList, hc, by rw [h.2.1]; exact htake⟩
theorem MineR.empty {w : World} {e : TypeId} {k : Nat} (cs : List Value) (h0 : cs = []) : MineR e k w (w.alloc (.cells cs.toArray e)) (.slice (some ⟨w.heap.size, 0, none⟩) 0 0) 0 [] := by
  subst h0
  refine ⟨(Below.refl _ w).alloc (Nat.le_refl _) _, by simp, .inr ⟨w.heap.size, 0, #[], rfl, Nat.le_refl _, heap_alloc_new w _, Nat.le_refl _, by simp [maxLen], by simp, by simp⟩⟩
def ClonePost (w : World) (n : Nat) (cs : List Value) (e : Ending) (w' : World) : Prop :=
  ∃ A' c', e = .returned (.slice A' n c') ∧ n ≤ c' ∧ Below w.heap.size w w' ∧ ∃ g : Nat, w.heap.size ≤ g ∧ (0 < n → A' = some ⟨g, 0, none⟩ ∧ RowB w' g 68 cs)
theorem ClonePost.of {w w' : World} {A : Option Addr} {n c : Nat} {cs : List Value} (h : MineR 68 35 w w' (.slice A n c) n cs) : ClonePost w n cs (.returned (.slice A n c)) w' := by
  obtain ⟨A1, c1, e1, hc, _, _⟩ := h.rows (by decide)
  injection e1 with e1 _ e3
  subst e1
  subst e3
  refine ⟨A, c, rfl, hc, h.below, ?_⟩
  rcases Nat.eq_zero_or_pos n with h0 | h0
  · exact ⟨w.heap.size, Nat.le_refl _, fun h => absurd h (by omega)⟩
  · obtain ⟨g, h1, h2, h3⟩ := h.rowB h0
    exact ⟨g, h2, fun _ => ⟨h1, h3⟩⟩
theorem eql_nilI (w : World) (a : Option Addr) (n c n' c' : Nat) : (binOp .eql 63 (.slice a n c) (.slice none n' c')).run Try.prog w = .ok (.bool a.isNone) w :=
  Lib.run_eql_slice_nil w _ _ a n c n' c' Try.underlying63
set_option maxHeartbeats 400000 in
set_option maxRecDepth 100000 in
theorem cloneIn_any (w : World) (A : Option Addr) (n c : Nat) (xs : List InV) (hX : InsIn w A n xs) (hn : n ≤ 1000) :
    Calls Try.prog 82 #[.slice A n c] w (ClonePost w n (xs.flatMap InV.cells)) := by
  have HN := hide hn
  clear hn
  have q24 := eql_nilI
  cases A with
  | none =>
    have h0 : n = 0 := by
      rcases Nat.eq_zero_or_pos n with h1 | h1
      · exact h1
      · obtain ⟨_, _, h2, _⟩ := hX.2.2 h1; cases h2
    subst h0
    go_enter Try.func82, Try.ntmps82
    go_wp2
    go_ret
    exact ⟨none, 0, rfl, Nat.le_refl _, Below.refl _ _, w.heap.size, Nat.le_refl _, fun h => absurd h (by omega)⟩
  | some a =>
    have hlen : (xs.flatMap InV.cells).length = n * 35 := by
      rw [← hX.1]
      have : ∀ l : List InV, (∀ a ∈ l, a.ref.Fine) → (l.flatMap InV.cells).length = l.length * 35 := by
        intro l
        induction l with
        | nil => intro _; simp
        | cons x l ih => intro h; rw [List.flatMap_cons, List.length_append, ih (fun y hy => h y (by simp [hy])), InV.cells_len (h x (by simp)), List.length_cons]; omega
      exact this xs fun a ha => (hX.2.1 a ha).ref
    have hone : ∀ u ∈ xs.flatMap InV.cells, u.oneCell' = true := fun u hu => by
      obtain ⟨a, _, h2⟩ := List.mem_flatMap.1 hu
      exact InV.one a u h2
    have hnews : ∀ (j : Nat) (u : Value), (xs.flatMap InV.cells)[j]? = some u → w.cell? (a.add j) = some u := by
      intro j u hu
      have hj : j < n * 35 := by have := (List.getElem?_eq_some_iff.1 hu).1; omega
      obtain ⟨b, off, h2, h3⟩ := hX.2.2 (by omega)
      injection h2 with h2
      subst h2
      rw [Addr.add_mid]
      have hi : j / 35 < xs.length := by rw [hX.1]; omega
      have h4 := h3 (j / 35) _ (List.getElem?_eq_getElem hi)
      have key : ∀ (ys : List InV) (i : Nat), (∀ a ∈ ys, a.ref.Fine) → (hi : i < ys.length) → ∀ k, k < 35 → (ys.flatMap InV.cells)[i * 35 + k]? = (ys[i]).cells[k]? := by
        intro ys
        induction ys with
        | nil => intro i _ h; simp at h
        | cons y ys ih =>
          intro i hf hi k hk
          have hy := InV.cells_len (hf y (by simp))
          cases i with
          | zero => rw [List.flatMap_cons, List.getElem?_append_left (by omega)]; simp
          | succ i =>
            rw [List.flatMap_cons, List.getElem?_append_right (by omega), hy, show (i + 1) * 35 + k - 35 = i * 35 + k by omega]
            rw [ih i (fun a ha => hf a (by simp [ha])) (by simp at hi; omega) k hk]
            simp
      have h5 := key xs (j / 35) (fun a ha => (hX.2.1 a ha).ref) hi (j % 35) (by omega)
      rw [show j / 35 * 35 + j % 35 = j by omega, hu] at h5
      have h6 := h4 (j % 35) u h5.symm
      rw [show off + j / 35 * 35 + j % 35 = off + j by omega] at h6
      exact h6
    have H1 := hide hlen
    have H2 := hide hone
    have H3 := hide hnews
    clear hlen hone hnews
    have HB := hide (show Below w.heap.size w (w.alloc (.cells #[] 68)) from (Below.refl _ w).alloc (Nat.le_refl _) _)
    go_enter Try.func82, Try.ntmps82
    go_wp2_with (at_builtin; refine wpList_mineRa rfl _ _ 63 rfl 68 35 72 Try.underlying63 in_infoR (by decide) w _ 0 [] (by rfl) (MineR.empty [] rfl) a n c (xs.flatMap InV.cells) (by rfl) H1.out (fun j u hu => cell_under HB.out (H3.out j u hu)) H2.out (by have := HN.out; omega) (by decide) ?_; intro A' c' w' q1 q2 q3)
    go_wp2
    go_ret
    simp only [Nat.zero_add, List.nil_append] at q1 ⊢
    refine ClonePost.of q1
end Go.Proofs.Ytfloclamdpageaa
/-
  tx: Hash: what is signed.
-/
namespace Go.Proofs.Ytfloclamdpageaa
open Go.RowKit

/-- In memory: an In as it is signed. -/
def InV.bareV (a : InV) (j : Nat) (i : Int) (B : Option Addr) (m d : Nat) (bs : List Int) : InV := if (j : Int) = i then a.with B m d bs else a.with none 0 0 []
/-- The first k of them as they are signed. -/
def bareAt (i : Int) (B : Option Addr) (m d : Nat) (bs : List Int) (xs : List InV) (k : Nat) : List InV := xs.mapIdx fun j a => if j < k then a.bareV j i B m d bs else a
section
variable {i : Int} {B : Option Addr} {m d : Nat} {bs : List Int} {xs : List InV} {k : Nat}
theorem bareAt_zero : bareAt i B m d bs xs 0 = xs := by
  refine List.ext_getElem? fun j => ?_
  simp [bareAt]
theorem bareAt_len : (bareAt i B m d bs xs k).length = xs.length := by simp [bareAt]
theorem bareAt_get {a : InV} (h : xs[k]? = some a) : (bareAt i B m d bs xs k)[k]? = some a := by
  simp [bareAt, h]
theorem bareAt_set {a : InV} (h : xs[k]? = some a) : (bareAt i B m d bs xs k).set k (a.bareV k i B m d bs) = bareAt i B m d bs xs (k + 1) := by
  have hk : k < xs.length := (List.getElem?_eq_some_iff.1 h).1
  refine List.ext_getElem? fun j => ?_
  rw [List.getElem?_set]
  by_cases hj : k = j
  · subst hj
    rw [if_pos rfl, if_pos (by rw [bareAt_len]; exact hk)]
    simp [bareAt, h]
  · rw [if_neg hj]
    simp only [bareAt, List.getElem?_mapIdx]
    rcases xs[j]? with _ | b
    · rfl
    · simp only [Option.map_some]
      by_cases h1 : j < k
      · rw [if_pos h1, if_pos (by omega)]
      · rw [if_neg h1, if_neg (by omega)]
theorem bareV_ref (a : InV) (j : Nat) : (a.bareV j i B m d bs).ref = a.ref := by unfold InV.bareV; split <;> rfl
theorem bareV_fine {w : World} {a : InV} (j : Nat) (h : a.Fine w) (hB : Bys w B m bs) (hc : m ≤ d) : (a.bareV j i B m d bs).Fine w := by
  unfold InV.bareV
  split
  · exact ⟨h.ref, hB, hc, h.order⟩
  · exact ⟨h.ref, Bys.nil _ _, Nat.le_refl _, h.order⟩
theorem bareAt_mem {a : InV} (h : a ∈ bareAt i B m d bs xs k) : ∃ b ∈ xs, a = b ∨ ∃ j, a = b.bareV j i B m d bs := by
  obtain ⟨j, hj⟩ := List.mem_iff_getElem?.1 h
  simp only [bareAt, List.getElem?_mapIdx] at hj
  rcases hx : xs[j]? with _ | b
  · rw [hx] at hj; simp at hj
  · rw [hx] at hj
    simp only [Option.map_some, Option.some.injEq] at hj
    refine ⟨b, List.mem_of_getElem? hx, ?_⟩
    by_cases h1 : j < k
    · rw [if_pos h1] at hj; exact .inr ⟨j, hj.symm⟩
    · rw [if_neg h1] at hj; exact .inl hj.symm
theorem bareAt_fine {w : World} (hX : ∀ a ∈ xs, a.Fine w) (hB : Bys w B m bs) (hc : m ≤ d) : ∀ a ∈ bareAt i B m d bs xs k, a.Fine w := by
  intro a ha
  obtain ⟨b, hb, h | ⟨j, h⟩⟩ := bareAt_mem ha
  · rw [h]; exact hX b hb
  · rw [h]; exact bareV_fine j (hX b hb) hB hc
theorem bareAt_d : (bareAt i B m d bs xs xs.length).map InV.d = (xs.map InV.d).mapIdx fun j a => a.bare j i bs := by
  refine List.ext_getElem? fun j => ?_
  simp only [bareAt, List.getElem?_map, List.getElem?_mapIdx]
  rcases hx : xs[j]? with _ | b
  · rfl
  · have hj : j < xs.length := (List.getElem?_eq_some_iff.1 hx).1
    simp only [Option.map_some, if_pos hj, Option.some.injEq]
    unfold InV.bareV InD.bare
    split <;> rfl
end
/-- The row, one cell turned. -/
theorem in_row {w : World} {g k : Nat} {ys : List InV} {a : InV} (h : RowB w g 68 (ys.flatMap InV.cells)) (hf : ∀ x ∈ ys, x.ref.Fine) (hk : ys[k]? = some a) (B' : Option Addr) (m' d' : Nat) (bs' : List Int) :
    RowB (w.setCell ⟨g, k * 35 + 33, none⟩ (.slice B' m' d')) g 68 ((ys.set k (a.with B' m' d' bs')).flatMap InV.cells) := by
  rw [← flatMap_set InV.cells 35 _ k 33 a (a.with B' m' d' bs') (.slice B' m' d') (fun x hx => InV.cells_len (hf x hx)) hk (by decide) (InV.with_cells a (hf a (List.mem_of_getElem? hk)) B' m' d' bs')]
  exact h.set_ _ _
theorem in_cell {w : World} {g k : Nat} {ys : List InV} {a : InV} (h : RowB w g 68 (ys.flatMap InV.cells)) (hf : ∀ x ∈ ys, x.ref.Fine) (hk : ys[k]? = some a) : w.cell? ⟨g, k * 35 + 33, none⟩ = some (.slice a.A a.n a.c) := by
  refine h.cell _ _ ?_
  have key : ∀ (ys : List InV) (k : Nat), (∀ x ∈ ys, x.ref.Fine) → ys[k]? = some a → ∀ j, j < 35 → (ys.flatMap InV.cells)[k * 35 + j]? = a.cells[j]? := by
    intro ys
    induction ys with
    | nil => intro k _ h; simp at h
    | cons y ys ih =>
      intro k hf h j hj
      have hy := InV.cells_len (hf y (by simp))
      cases k with
      | zero => simp at h; subst h; rw [List.flatMap_cons, List.getElem?_append_left (by omega)]; simp
      | succ k =>
        rw [List.flatMap_cons, List.getElem?_append_right (by omega), hy, show (k + 1) * 35 + j - 35 = k * 35 + j by omega]
        exact ih k (fun x hx => hf x (by simp [hx])) (by simpa using h) j hj
  rw [key ys k hf hk 33 (by decide), InV.cells, List.getElem?_append_right (by rw [RefD.cells_len (hf a (List.mem_of_getElem? hk))]; exact Nat.le_refl _), RefD.cells_len (hf a (List.mem_of_getElem? hk))]
  rfl
theorem in_rowsIn {w : World} {g n : Nat} {ys : List InV} (h : RowB w g 68 (ys.flatMap InV.cells)) (hl : ys.length = n) (hf : ∀ x ∈ ys, x.Fine w) : InsIn w (some ⟨g, 0, none⟩) n ys := by
  refine ⟨hl, hf, fun _ => ⟨g, 0, rfl, fun i a ha j u hu => ?_⟩⟩
  refine h.cell _ _ ?_
  have key : ∀ (ys : List InV) (i : Nat), (∀ x ∈ ys, x.ref.Fine) → ys[i]? = some a → ∀ j u, a.cells[j]? = some u → (ys.flatMap InV.cells)[i * 35 + j]? = some u := by
    intro ys
    induction ys with
    | nil => intro i _ h; simp at h
    | cons y ys ih =>
      intro i hf h j u hu
      have hy := InV.cells_len (hf y (by simp))
      cases i with
      | zero => simp at h; subst h; rw [List.flatMap_cons, List.getElem?_append_left (by have := (List.getElem?_eq_some_iff.1 hu).1; omega)]; simpa using hu
      | succ i =>
        rw [List.flatMap_cons, List.getElem?_append_right (by omega), hy, show (i + 1) * 35 + j - 35 = i * 35 + j by omega]
        exact ih i (fun x hx => hf x (by simp [hx])) (by simpa using h) j u hu
  rw [Nat.zero_add]
  exact key ys i (fun x hx => (hf x hx).ref) ha j u hu
attribute [local go_sem ↓] mkTx_fold loadTx_fold
def hashV (t : TxV) (A : Option Addr) (c : Nat) (i : Int) (B : Option Addr) (m d : Nat) (bs : List Int) : TxV := ⟨t.version, A, t.iN, c, bareAt i B m d bs t.ins t.ins.length, t.oA, t.oN, t.oC, t.outs, t.until_⟩
theorem hashV_d (t : TxV) (A : Option Addr) (c : Nat) (i : Int) (B : Option Addr) (m d : Nat) (bs : List Int) : (hashV t A c i B m d bs).d = signT t.d i bs := by
  simp only [hashV, TxV.d, signT, bareAt_d]
theorem hashV_small {t : TxV} (h : t.Small) (A : Option Addr) (c : Nat) (i : Int) (B : Option Addr) (m d : Nat) (bs : List Int) (hm : m ≤ 10000) : (hashV t A c i B m d bs).Small := by
  refine ⟨h.ins, h.outs, fun a ha => ?_, h.lock⟩
  obtain ⟨b, hb, h1 | ⟨j, h1⟩⟩ := bareAt_mem (show a ∈ bareAt i B m d bs t.ins t.ins.length from ha)
  · rw [h1]; exact h.unlock b hb
  · rw [h1]; unfold InV.bareV; split
    · exact hm
    · exact Nat.zero_le _
theorem TxV.bytes_len2 {w : World} {t : TxV} (hf : t.Fine w) (hs : t.Small) : t.d.bytes.length ≤ 99999000 := by
  rw [TxD.bytes_eq]
  have h1 := flatMap_len (fun a : InV => a.d.bytes) t.ins 10100 (fun a ha => InV.bytes_len a (hf.ins.2.1 a ha).ref (by have h3 := (hf.ins.2.1 a ha).bys.1; have h4 := hs.unlock a ha; omega))
  have h2 := flatMap_len (fun a : OutV => a.d.bytes) t.outs 10100 (fun a ha => OutV.bytes_len a (by have h3 := (hf.outs.2.1 a ha).bys.1; have h4 := hs.lock a ha; omega))
  have h3 := hs.ins
  have h4 := hs.outs
  have h5 := hf.ins.1
  have h6 := hf.outs.1
  have h7 := cnt_length t.ins.length
  have h8 := cnt_length t.outs.length
  simp only [List.length_append, dig_length]
  rw [h5] at h1
  rw [h6] at h2
  have h9 : 10100 * t.iN ≤ 10100 * 1000 := Nat.mul_le_mul_left _ h3
  have h10 : 10100 * t.oN ≤ 10100 * 1000 := Nat.mul_le_mul_left _ h4
  omega
set_option maxHeartbeats 4000000 in
set_option maxRecDepth 100000 in
theorem THash_any (w : World) (t : TxV) (i : Int) (B : Option Addr) (m d : Nat) (bs : List Int) (hf : t.Fine w) (hs : t.Small) (hB0 : Bys w B m bs) (hc0 : m ≤ d) (hm : m ≤ 10000) (hi0 : -9223372036854775808 ≤ i) (hi1 : i ≤ 9223372036854775807) :
    Calls Try.prog 56 #[.agg t.cells.toArray, .int .i64 i, .slice B m d] w fun e w' => e = .returned (.agg (bcs (hashT t.d i bs)).toArray) ∧ Below w.heap.size w w' := by
  have hHH := hide Try.underlying44
  have hIH : (Try.prog.info? 44).map (·.size) = some 32 := by kernel_rfl
  have lz32 : (bcs zero32).length = 32 := rfl
  have lsh2 : (bcs (hashT t.d i bs)).length = 32 := by rw [bcs_length, hashT_len]
  have b1 : Below w.heap.size w ((w.alloc (.cells t.cells.toArray 65)).alloc (.cells (bcs zero32).toArray 44)) := below_alloc (below_alloc (Below.refl _ _) _) _
  have T0 := (Blk.new w 65 t.cells).alloc (.cells (bcs zero32).toArray 44)
  have K0 := Blk.new1 w (.cells t.cells.toArray 65) 44 (bcs zero32)
  have HB := hide hB0
  have HF := hide hf
  have HFI := hide (hf.ins.below' b1)
  have HS := hide hs
  have HC := hide hc0
  have HM := hide hm
  have HI0 := hi0
  have HI1 := hi1
  have B1 := hide b1
  clear b1 hf hs hB0 hc0 hm hi0 hi1
  have x1 := T0.c1
  go_enter Try.func56, Try.ntmps56
  go_wp2_with (refine wpList_alloc_agg rfl 44 rfl (bcs zero32) zero32_info ?_; simp only [Act.put, List.setIfInBounds_toArray, List.set_cons_zero, List.set_cons_succ, World.size_alloc])
  obtain ⟨w1, hw1⟩ : ∃ x, x = (w.alloc (.cells t.cells.toArray 65)).alloc (.cells (bcs zero32).toArray 44) := ⟨_, rfl⟩
  have hs1 := hide (show w1.heap.size = w.heap.size + 2 by rw [hw1]; simp)
  rw [← hw1] at HFI B1 T0 K0 x1 ⊢
  clear hw1
  have HT0 := hide T0
  have HK0 := hide K0
  clear T0 K0
  refine (cloneIn_any w1 t.iA t.iN t.iC t.ins HFI.out HS.out.ins).mono ?_
  rintro e w2 ⟨A2, c2, rfl, hc2, hb2, g, hg, hrow⟩
  have T2 := HT0.out.under hb2
  have k1 := T2.c1
  have f1 := T2.frozen 1
  have T3 := T2.set_ 1 (.slice A2 t.iN c2)
  have K3 := (HK0.out.under hb2).far (p := ⟨w.heap.size, 1, none⟩) (by simp) (.slice A2 t.iN c2)
  have O3 : Only (fun i => i = w.heap.size) w2 (w2.setCell ⟨w.heap.size, 1, none⟩ (.slice A2 t.iN c2)) := Only.setCell (Only.refl (fun i => i = w.heap.size) w2) (p := ⟨w.heap.size, 1, none⟩) (.inr rfl) _
  have B3 := (Below.then_ B1.out hb2).trans (O3.below (Nat.le_trans (by have := hs1.out; omega) hb2.size) (fun i hi e => by have h9 : i = w.heap.size := e; omega))
  have R3 : 0 < t.iN → RowB (w2.setCell ⟨w.heap.size, 1, none⟩ (.slice A2 t.iN c2)) g 68 (t.ins.flatMap InV.cells) := fun h => (hrow h).2.only O3 (fun e => by have h9 : g = w.heap.size := e; have := hs1.out; omega)
  have HA2 := hide (show 0 < t.iN → A2 = some ⟨g, 0, none⟩ from fun h => (hrow h).1)
  have HG := hide (show w.heap.size + 2 ≤ g by have := hs1.out; omega)
  have HC2 := hide hc2
  have hz3 := hide (show w.heap.size + 2 ≤ (w2.setCell ⟨w.heap.size, 1, none⟩ (.slice A2 t.iN c2)).heap.size by have h1 := hb2.size; have := hs1.out; simp; omega)
  have k13 : (w2.setCell ⟨w.heap.size, 1, none⟩ (.slice A2 t.iN c2)).cell? ⟨w.heap.size, 1, none⟩ = some (.slice A2 t.iN c2) := T3.c1
  clear hrow O3 T2 hb2 hg hc2
  go_wp2_with fail
  obtain ⟨w3, hw3⟩ : ∃ x, x = w2.setCell ⟨w.heap.size, 1, none⟩ (.slice A2 t.iN c2) := ⟨_, rfl⟩
  rw [← hw3] at T3 K3 B3 R3 hz3 k13 ⊢
  clear hw3 k1 f1 x1
  have HT3 := hide T3
  have HK3 := hide K3
  have HB3 := hide B3
  have HR3 := hide R3
  clear T3 K3 B3 R3
  have hn9 : (t.iN : Int) ≤ 1000 := by have := HS.out.ins; omega
  go_loopw [15] (fun v wr => ∃ k : Nat, k ≤ t.iN ∧ v = .int .i64 (k : Int) ∧ (0 < t.iN → RowB wr g 68 ((bareAt i B m d bs t.ins k).flatMap InV.cells)) ∧ Only (fun i => i = g) w3 wr) (fun v _ => t.iN - (intOf v).toNat)
  case atStart => exact ⟨0, Nat.zero_le _, rfl, by rw [bareAt_zero]; exact HR3.out, Only.refl _ _⟩
  case round =>
    obtain ⟨k, hk, rfl, hR, ho⟩ := hrel
    have Tr := ho.blk HT3.out (show ¬ w.heap.size = g by have := HG.out; omega)
    have HO := hide ho
    have HBr := hide (show Below w.heap.size w wr from HB3.out.trans (ho.below (by have := hz3.out; omega) (fun i hi e => by have h9 : i = g := e; have := HG.out; omega)))
    by_cases hlt : k < t.iN
    · obtain ⟨a, ha⟩ : ∃ a, t.ins[k]? = some a := ⟨_, List.getElem?_eq_getElem (by have := HF.out.ins.1; omega)⟩
      have hA := HA2.out (by omega)
      subst hA
      have hfr : ∀ x ∈ bareAt i B m d bs t.ins k, x.ref.Fine := fun x hx => by
        obtain ⟨b, hb, h1 | ⟨j, h1⟩⟩ := bareAt_mem hx
        · rw [h1]; exact (HF.out.ins.2.1 b hb).ref
        · rw [h1, bareV_ref]; exact (HF.out.ins.2.1 b hb).ref
      have hga := bareAt_get (i := i) (B := B) (m := m) (d := d) (bs := bs) ha
      have r0 := hR (by omega)
      have c0 := in_cell r0 hfr hga
      have g0 := r0.frozen (k * 35 + 33)
      have k1 := Tr.c1
      have r1 := in_row r0 hfr hga none 0 0 []
      have hfr1 : ∀ x ∈ (bareAt i B m d bs t.ins k).set k (a.with none 0 0 []), x.ref.Fine := fun x hx => by
        rcases List.mem_or_eq_of_mem_set hx with h | h
        · exact hfr x h
        · rw [h]; exact (HF.out.ins.2.1 a (List.mem_of_getElem? ha)).ref
      have hga1 : ((bareAt i B m d bs t.ins k).set k (a.with none 0 0 []))[k]? = some (a.with none 0 0 []) := List.getElem?_set_self (by rw [bareAt_len]; exact (List.getElem?_eq_some_iff.1 ha).1)
      have c1 := in_cell r1 hfr1 hga1
      have g1 := r1.frozen (k * 35 + 33)
      have k2 := (Tr.far (p := ⟨g, k * 35 + 33, none⟩) (show w.heap.size ≠ g by have := HG.out; omega) (.slice none 0 0)).c1
      have o1 : Only (fun i => i = g) w3 (wr.setCell ⟨g, k * 35 + 33, none⟩ (.slice none 0 0)) := ho.setCell (p := ⟨g, k * 35 + 33, none⟩) (.inr rfl) _
      have hlt' : (k : Int) < (t.iN : Int) := by omega
      by_cases hki : (k : Int) = i
      · have hc : ((k : Int) == i) = true := by simp [hki]
        have r2 := in_row r1 hfr1 hga1 B m d bs
        have o2 := o1.setCell (p := ⟨g, k * 35 + 33, none⟩) (.inr rfl) (.slice B m d)
        rw [List.set_set, show (a.with none 0 0 []).with B m d bs = a.bareV k i B m d bs by unfold InV.bareV; rw [if_pos hki]; rfl, bareAt_set ha] at r2
        have HR2 := hide r2
        have HO2 := hide o2
        clear r0 r1 r2 o1 o2 hR ho hfr hfr1 hga hga1 hki Tr
        go_wp2_with fail
        exact ⟨⟨k + 1, by omega, by simp, fun _ => HR2.out, HO2.out⟩, by simp [intOf]; omega⟩
      · have hc : ((k : Int) == i) = false := by simp [hki]
        rw [show a.with none 0 0 [] = a.bareV k i B m d bs by unfold InV.bareV; rw [if_neg hki], bareAt_set ha] at r1
        have HR1 := hide r1
        have HO1 := hide o1
        clear r0 r1 o1 hR ho hfr hfr1 hga hga1 hki c1 Tr
        go_wp2_with fail
        exact ⟨⟨k + 1, by omega, by simp, fun _ => HR1.out, HO1.out⟩, by simp [intOf]; omega⟩
    · obtain rfl : k = t.iN := by omega
      have hlt' : ¬ (t.iN : Int) < (t.iN : Int) := by omega
      have hil := HF.out.ins.1
      obtain ⟨V, hV⟩ : ∃ V, V = hashV t A2 c2 i B m d bs := ⟨_, rfl⟩
      have hVc : t.cells.set 1 (.slice A2 t.iN c2) = V.cells := by rw [hV]; rfl
      rw [hVc] at Tr
      have hld := loadTx_run wr w.heap.size 0 V Tr.whole
      have HVS := hide (show V.Small by rw [hV]; exact hashV_small HS.out A2 c2 i B m d bs HM.out)
      have HVd := hide (show V.d = signT t.d i bs by rw [hV]; exact hashV_d t A2 c2 i B m d bs)
      have HVF := hide (show V.Fine wr by
        have hfr := bareAt_fine (i := i) (k := t.ins.length) (fun a ha => (HF.out.below HBr.out).ins.2.1 a ha) (HB.out.below HBr.out) HC.out
        rw [hV]
        refine ⟨HF.out.version, HF.out.until_, ?_, HF.out.outs.below' HBr.out, HC2.out, HF.out.ocap⟩
        rcases Nat.eq_zero_or_pos t.iN with h0 | h0
        · refine ⟨by rw [show (hashV t A2 c2 i B m d bs).ins = bareAt i B m d bs t.ins t.ins.length from rfl, bareAt_len]; exact hil, hfr, fun h => absurd h (by rw [show (hashV t A2 c2 i B m d bs).iN = t.iN from rfl]; omega)⟩
        · have h1 := hR h0
          rw [← hil] at h1
          rw [show (hashV t A2 c2 i B m d bs).iA = some ⟨g, 0, none⟩ from HA2.out h0]
          exact in_rowsIn h1 (show (bareAt i B m d bs t.ins t.ins.length).length = t.iN by rw [bareAt_len]; exact hil) hfr)
      have HKr := hide (ho.blk HK3.out (show ¬ w.heap.size + 1 = g by have := HG.out; omega))
      obtain ⟨U, hU⟩ : ∃ U : Int, U = i % 4294967296 := ⟨_, rfl⟩
      have h32 : IntKind.u32.wrap i = U := by rw [hU]; rfl
      have hU0 : 0 ≤ U := by omega
      have hU1 : U ≤ 4294967295 := by omega
      have h64 : IntKind.u64.wrap U = U := u64_small U hU0 hU1
      have HU := hide hU
      have hV5 := hide (TxV.bytes_len HVF.out HVS.out)
      clear hR ho Tr hU hV hVc hil
      go_wp2_with fail
      refine (TBytes_any wr V HVF.out HVS.out).mono ?_
      rintro e w5 ⟨A5, n5, c5, rfl, t5, f5⟩
      have HT5 := hide t5
      have HB5 := hide (Below.then_ HBr.out t5.below)
      have HK5 := hide (HKr.out.under t5.below)
      have hn5 := hide t5.len
      clear t5 f5 hld
      go_wp2_with fail
      refine (Fixed_any w5 w5 A5 n5 c5 V.d.bytes U 4 (Below.refl _ _) HT5.out.bys hU0 (by omega) (by have h1 := hV5.out; have h2 := hn5.out; omega)).mono ?_
      rintro e w6 ⟨A6, n6, c6, rfl, t6, f6⟩
      have hD : V.d.bytes ++ dig U.toNat (Rd.within 4).toNat = (signT t.d i bs).bytes ++ dig (i % 4294967296).toNat 4 := by rw [HVd.out, HU.out]; rfl
      rw [hD] at t6
      obtain ⟨D, hDD⟩ : ∃ D, D = (signT t.d i bs).bytes ++ dig (i % 4294967296).toNat 4 := ⟨_, rfl⟩
      rw [← hDD] at t6
      have hDH := hide (show sha2 D = hashT t.d i bs by rw [hDD]; rfl)
      have hDL := hide (show D.length ≤ 100000000 by
        have hv := TxV.bytes_len2 HVF.out HVS.out
        rw [hDD, ← HVd.out, List.length_append, dig_length]
        omega)
      have HB6 := hide (Below.then_ HB5.out t6.below)
      have HK6 := hide (HK5.out.under t6.below)
      have HBY := hide (Byss.one w6 w6 22 A6 n6 c6 D t6.bys t6.cap (Below.refl _ _))
      have HB67 := hide (show Below w6.heap.size w6 (w6.alloc (.cells #[.slice A6 n6 c6] 22)) from (Below.refl _ w6).alloc (Nat.le_refl _) _)
      clear t6 f6 hD hDD
      go_wp2_with fail
      refine (Twice_any _ _ 1 1 [D] HBY.out (by simp) (by simpa using hDL.out) (by decide)).mono ?_
      rintro e w8 ⟨rfl, hb8⟩
      have hf1 : [D].flatten = D := by simp
      rw [hf1, hDH.out]
      have hb68 := hide (Below.then_ HB67.out hb8)
      have K8 := hide (HK6.out.under hb68.out)
      have hbw := hide (Below.then_ HB6.out hb68.out)
      go_wp2_with (refine wpList_store_blk rfl 44 _ _ rfl (w.heap.size + 1) 0 44 (bcs zero32) (bcs (hashT t.d i bs)) (by rfl) (by rfl) K8.out (by rw [lz32, lsh2]; decide) (by rw [hIH, lsh2]) (bcs_one _) ?_; intro w9 o9 z9 b9; simp only [Act.put])
      rw [lay_all (bcs zero32) _ (by rw [lz32, lsh2])] at b9
      refine bodyPost_ret (results_cell_blk rfl _ _ (w.heap.size + 1) 44 _ _ (by rfl) b9 hHH.out rfl (by rw [hIH, lsh2])) rfl ⟨rfl, ?_⟩
      exact hbw.out.trans (o9.below hbw.out.size (fun i hi e => by have h9 : i = w.heap.size + 1 := e; omega))
end Go.Proofs.Ytfloclamdpageaa
/-
  The document: Hash: what is signed.
-/
namespace Go.Proofs.Ytfloclamdpageaa
open Go.RowKit

/-- A struct of three parts, built of the first and the last. -/
theorem run_build02 {P : Program} (t : TypeId) (f0 f1 f2 : Field) (k n m : Nat) (hu : P.underlying t = some (.struct #[f0, f1, f2])) (ho0 : f0.offset = 0) (ho1 : f1.offset = k) (ho2 : f2.offset = k + n)
    (hs0 : (P.info? f0.type).map (·.size) = some k) (hs1 : (P.info? f1.type).map (·.size) = some n) (hs2 : (P.info? f2.type).map (·.size) = some m) (zs : List Value) (hz : (P.info? t).map (·.zero) = some (some (.agg zs.toArray))) (hzl : zs.length = k + n + m)
    (v0 v2 : Value) (vs0 vs2 : List Value) (h0 : v0.cells = vs0.toArray) (h2 : v2.cells = vs2.toArray) (l0 : vs0.length = k) (l2 : vs2.length = m) (w : World) :
    (Instr.build t #[(0, v0), (2, v2)]).run P w = .ok (.agg (vs0 ++ (zs.drop k).take n ++ vs2).toArray) w := by
  obtain ⟨i, hi, hzz⟩ : ∃ i, P.info? t = some i ∧ i.zero = some (.agg zs.toArray) := by
    cases hq : P.info? t with
    | none => simp [hq] at hz
    | some i => exact ⟨i, rfl, by simpa [hq] using hz⟩
  unfold Instr.build
  have hm : (#[f0, f1, f2].mapM fun f => do pure (f.offset, ← sizeOf f.type) : Sem (Array (Nat × Nat))).run P w = .ok #[(0, k), (k, n), (k + n, m)] w := by
    simp [ho0, ho1, ho2, run_size hs0, run_size hs1, run_size hs2]
  have hf : Instr.fill (fun j => #[(0, k), (k, n), (k + n, m)][j]?) zs.toArray [(0, v0), (2, v2)] = some (vs0 ++ (zs.drop k).take n ++ vs2).toArray := by
    rw [fill_one _ zs 0 v0 vs0 0 _ (by rw [l0]; rfl) h0 (by omega)]
    rw [fill_one _ (lay zs 0 vs0) 2 v2 vs2 (k + n) _ (by rw [l2]; rfl) h2 (by rw [lay_length]; omega)]
    rw [Instr.fill]
    congr 2
    rw [lay_eq _ _ _ (by rw [lay_length]; omega), lay_eq zs 0 vs0 (by omega)]
    rw [List.take_zero, List.nil_append, Nat.zero_add, l0]
    have e2 : (vs0 ++ zs.drop k).take (k + n) = vs0 ++ (zs.drop k).take n := by
      rw [List.take_append, List.take_of_length_le (by omega), l0, Nat.add_sub_cancel_left]
    have e3 : (vs0 ++ zs.drop k).drop (k + n + vs2.length) = [] := by
      apply List.drop_of_length_le
      simp
      omega
    rw [e2, e3, List.append_nil]
  simp only [Sem.run_bind, run_zero hi hzz, Result.andThen_ok, run_underlying hu, hm, show (Value.agg zs.toArray).cells = zs.toArray from rfl]
  simp only [hf]
  simp
theorem mkIn_two (d : RefD) (hd : d.Fine) (u : Int) (w : World) : (mkIn #[(0, .agg d.cells.toArray), (2, .int .u32 u)]).run Try.prog w = .ok (.agg (⟨d, none, 0, 0, [], u⟩ : InV).cells.toArray) w := by
  have := run_build02 (P := Try.prog) 68 _ _ _ 33 1 1 Try.underlying68 rfl rfl rfl (by kernel_rfl) (by kernel_rfl) (by kernel_rfl) zeroI.cells zeroIn_info rfl (.agg d.cells.toArray) (.int .u32 u) d.cells [.int .u32 u] rfl rfl (RefD.cells_len hd) rfl w
  rw [mkIn, this]
  have e : (zeroI.cells.drop 33).take 1 = [.slice none 0 0] := rfl
  rw [e]
  simp [InV.cells]
/-- The copy that is signed, half made. -/
structure OwnAt (w3 ws : World) (p : Nat) (V : Int) (k : Nat) (ys : List InV) (A : Option Addr) (c : Nat) (oA : Option Addr) (oN oC : Nat) (U : Int) : Prop where
  blk : Blk ws p 65 (txcells V A k c oA oN oC U)
  row : ws.ownsRow w3.heap.size 68 35 (.slice A k c) k (ys.flatMap InV.cells)
  only : Only (fun i => i = p) w3 ws
theorem OwnAt.next {w3 wr w8 w9 : World} {p : Nat} {V : Int} {k : Nat} {ys : List InV} {A : Option Addr} {c : Nat} {oA : Option Addr} {oN oC : Nat} {U : Int} {a : InV} {A9 : Option Addr} {c9 : Nat} (h : OwnAt w3 wr p V k ys A c oA oN oC U) (hp : p < w3.heap.size) (hb : Below wr.heap.size wr w8)
    (q1 : w9.ownsRow w3.heap.size 68 35 (.slice A9 (k + 1) c9) (k + 1) (ys.flatMap InV.cells ++ a.cells)) (q3 : ∀ g, (Value.slice A9 (k + 1) c9).ownBlock = some g → (Value.slice A k c).ownBlock = some g ∨ w8.heap.size ≤ g) (q4 : Only (fun i => (Value.slice A k c).ownBlock = some i) w8 w9) :
    OwnAt w3 (w9.setCell ⟨p, 1, none⟩ (.slice A9 (k + 1) c9)) p V (k + 1) (ys ++ [a]) A9 c9 oA oN oC U := by
  have hlt := h.row.lt
  have hs := h.only.size
  have hs8 := hb.size
  have hp9 : ¬ (Value.slice A k c).ownBlock = some p := fun e => by have := (hlt _ e).1; omega
  have hq9 : ∀ g, (Value.slice A9 (k + 1) c9).ownBlock = some g → ¬ g = p := fun g hg e => by
    subst e
    rcases q3 _ hg with h1 | h1
    · exact hp9 h1
    · omega
  refine ⟨(q4.blk (h.blk.under hb) hp9).set_ 1 _, ?_, ?_⟩
  · rw [List.flatMap_append, List.flatMap_cons, List.flatMap_nil, List.append_nil]
    exact (Only.setCell (Only.refl (fun i => i = p) w9) (p := ⟨p, 1, none⟩) (.inr rfl) _).own q1 hq9
  · refine Only.setCell (F := fun i => i = p) (p := ⟨p, 1, none⟩) ?_ (.inr rfl) _
    exact (h.only.trans (Only.of_below hb _) (fun _ _ e => e)).trans q4 (fun j hj e => by have := (hlt _ e).1; omega)
theorem mkTx_own (V : Int) (oA : Option Addr) (oN oC : Nat) (U : Int) (w : World) : (mkTx #[(0, .int .u32 V), (2, .slice oA oN oC), (3, .int .u32 U)]).run Try.prog w = .ok (.agg (txcells V none 0 0 oA oN oC U).toArray) w := by kernel_rfl
attribute [local go_sem ↓] loadIn_fold loadRef_fold loadTx_fold mkTx_fold mkIn_fold mkIns_fold
set_option maxHeartbeats 4000000 in
set_option maxRecDepth 100000 in
theorem refTHash_any (w : World) (t : TxV) (i : Int) (B : Option Addr) (m d : Nat) (bs : List Int) (hf : t.Fine w) (hs : t.Small) (hB0 : Bys w B m bs) (hc0 : m ≤ d) (hm : m ≤ 10000) (hi0 : -9223372036854775808 ≤ i) (hi1 : i ≤ 9223372036854775807) :
    Calls Try.prog 57 #[.agg t.cells.toArray, .int .i64 i, .slice B m d] w fun e w' => e = .returned (.agg (bcs (hashT t.d i bs)).toArray) ∧ Below w.heap.size w w' := by
  have hHH := hide Try.underlying44
  have hIH : (Try.prog.info? 44).map (·.size) = some 32 := by kernel_rfl
  have lz32 : (bcs zero32).length = 32 := rfl
  have lsh2 : (bcs (hashT t.d i bs)).length = 32 := by rw [bcs_length, hashT_len]
  have b1 : Below w.heap.size w ((w.alloc (.cells t.cells.toArray 65)).alloc (.cells (bcs zero32).toArray 44)) := below_alloc (below_alloc (Below.refl _ _) _) _
  have T0 := (Blk.new w 65 t.cells).alloc (.cells (bcs zero32).toArray 44)
  have K0 := Blk.new1 w (.cells t.cells.toArray 65) 44 (bcs zero32)
  have HB := hide hB0
  have HF := hide hf
  have HS := hide hs
  have HC := hide hc0
  have HM := hide hm
  have B1 := hide b1
  clear b1 hf hs hB0 hc0 hm
  have x0 := T0.c0
  have x1 := T0.c1
  have x2 := T0.c2
  have x3 := T0.c3
  have KZ := hide (Blk.new ((w.alloc (.cells t.cells.toArray 65)).alloc (.cells (bcs zero32).toArray 44)) 65 (txcells 0 none 0 0 none 0 0 0))
  have hsz : ((w.alloc (.cells t.cells.toArray 65)).alloc (.cells (bcs zero32).toArray 44)).heap.size = w.heap.size + 2 := by simp
  rw [hsz] at KZ
  have KT0 := hide T0
  have KH0 := hide K0
  have hmk := mkTx_own t.version t.oA t.oN t.oC t.until_
  have lx : (txcells t.version none 0 0 t.oA t.oN t.oC t.until_).length = 4 := rfl
  have lz4 : (txcells 0 none 0 0 none 0 0 0).length = 4 := rfl
  have hI4 : (Try.prog.info? 65).map (·.size) = some 4 := by kernel_rfl
  have HZX := hide hsz
  clear T0 K0 hsz
  go_enter Try.func57, Try.ntmps57
  go_wp2_with (first
    | (refine wpList_alloc_agg rfl 44 rfl (bcs zero32) zero32_info ?_; simp only [Act.put, List.setIfInBounds_toArray, List.set_cons_zero, List.set_cons_succ, World.size_alloc])
    | (refine wpList_alloc_agg rfl 65 rfl (txcells 0 none 0 0 none 0 0 0) zeroTx_info ?_; simp only [Act.put, List.setIfInBounds_toArray, List.set_cons_zero, List.set_cons_succ, World.size_alloc])
    | (refine wpList_store_blk rfl 65 _ _ rfl (w.heap.size + 2) 0 65 (txcells 0 none 0 0 none 0 0 0) (txcells t.version none 0 0 t.oA t.oN t.oC t.until_) (by rfl) (by rfl) KZ.out (by rw [lz4, lx]; decide) (by rw [hI4, lx]) (by intro v hv; simp only [txcells, List.mem_cons, List.mem_nil_iff, or_false] at hv; rcases hv with rfl | rfl | rfl | rfl <;> rfl) ?_; intro w3 o3 z3 b3; rw [lay_all _ _ (by rw [lz4, lx])] at b3; have B3 := hide b3; have O3 := hide o3; have Z3 := hide z3; have y1 := ((o3.blk (KT0.out.alloc _) (show ¬ w.heap.size = w.heap.size + 2 by omega))).c1; clear o3 z3 b3; simp only [Act.put]))
  obtain ⟨p, hp⟩ : ∃ p, p = w.heap.size + 1 + 1 := ⟨_, rfl⟩
  have hp2 : w.heap.size + 2 = p := by omega
  rw [← hp]
  have HP := hide (show p = w.heap.size + 2 from hp2.symm)
  have HB3 := hide (show Below w.heap.size w w3 from (below_alloc B1.out _).trans (O3.out.below (by have := HZX.out; simp; omega) (fun i hi e => by have h9 : i = w.heap.size + 2 := e; omega)))
  have HK3 := hide (O3.out.blk (KH0.out.alloc _) (show ¬ w.heap.size + 1 = w.heap.size + 2 by omega))
  rw [hp2] at B3
  have hz3 := hide (show p < w3.heap.size from B3.out.lt)
  have hn9 : (t.iN : Int) ≤ 1000 := by have := HS.out.ins; omega
  have hil := hide HF.out.ins.1
  clear x0 x1 x2 x3 KZ KT0 KH0 hmk O3 Z3 hp y1 hp2
  go_loopw [21] (fun v wr => ∃ (k : Nat) (A : Option Addr) (c : Nat), k ≤ t.iN ∧ v = .int .i64 (k : Int) ∧ OwnAt w3 wr p t.version k ((bareAt i B m d bs t.ins t.ins.length).take k) A c t.oA t.oN t.oC t.until_) (fun v _ => t.iN - (intOf v).toNat)
  case atStart => exact ⟨0, none, 0, Nat.zero_le _, rfl, B3.out, World.ownsRow_nil _ _ _ _, Only.refl _ _⟩
  case round =>
    obtain ⟨k, A, c, hk, rfl, hI⟩ := hrel
    have HI := hide hI
    have HBr := hide (show Below w.heap.size w wr from HB3.out.trans (hI.only.below (by have := hz3.out; have := HP.out; omega) (fun i hi e => by have h9 : i = p := e; have := HP.out; omega)))
    clear hI
    by_cases hlt : k < t.iN
    · obtain ⟨a, ha⟩ : ∃ a, t.ins[k]? = some a := ⟨_, List.getElem?_eq_getElem (by have := hil.out; omega)⟩
      have haf := HF.out.ins.2.1 a (List.mem_of_getElem? ha)
      obtain ⟨pa, oa, hpa, hra⟩ := HF.out.ins.2.2 (by omega)
      have hld := loadIn_run wr pa (oa + k * 35) a (range_under (hra k a ha) HBr.out) haf.ref
      have HTK := hide (show (bareAt i B m d bs t.ins t.ins.length).take (k + 1) = (bareAt i B m d bs t.ins t.ins.length).take k ++ [a.bareV k i B m d bs] by
        rw [List.take_add_one, show (bareAt i B m d bs t.ins t.ins.length)[k]? = some (a.bareV k i B m d bs) by simp only [bareAt, List.getElem?_mapIdx, ha, Option.map_some, if_pos (List.getElem?_eq_some_iff.1 ha).1]]
        rfl)
      have la : a.cells.length = 35 := InV.cells_len haf.ref
      have lz : zeroI.cells.length = 35 := rfl
      have hI := isIn
      have HAR := hide haf.ref
      have HAO := hide haf.order
      have KZ := hide (Blk.new wr 68 zeroI.cells)
      have i0 : (0 : Int) ≤ (k : Int) := by omega
      have i1 : (k : Int) < (t.iN : Int) := by omega
      have hk1000 : k ≤ 1000 := by omega
      have hmk2 := mkIn_two a.ref haf.ref a.order
      have lb : (⟨a.ref, none, 0, 0, [], a.order⟩ : InV).cells.length = 35 := InV.cells_len haf.ref
      have HBX := hide (show Below wr.heap.size wr (wr.alloc (.cells zeroI.cells.toArray 68)) from (Below.refl _ wr).alloc (Nat.le_refl _) _)
      clear ha haf hra
      rw [hpa]
      have HRF := hide (show (a.bareV k i B m d bs).ref.Fine by rw [bareV_ref]; exact HAR.out)
      have hnw := hide (show ¬ (Value.slice A k c).ownBlock = some p from fun e => by have := (HI.out.row.lt _ e).1; have := hz3.out; omega)
      by_cases hki : (k : Int) = i
      · have hc : ((k : Int) == i) = true := by simp [hki]
        have HBV := hide (show a.bareV k i B m d bs = (⟨a.ref, none, 0, 0, [], a.order⟩ : InV).with B m d bs by unfold InV.bareV; rw [if_pos hki]; rfl)
        have HKI := hide hki
        clear hki
        go_wp2_with (first
          | (refine wpList_alloc_agg rfl 68 rfl zeroI.cells zeroIn_info ?_; simp only [Act.put, List.setIfInBounds_toArray, List.set_cons_zero, List.set_cons_succ])
          | (refine wpList_store_blk rfl 68 _ _ rfl wr.heap.size 0 68 zeroI.cells a.cells (by rfl) (by rfl) KZ.out (by rw [lz, la]; decide) (by rw [hI, la]) (InV.one a) ?_; intro w5 o5 z5 b5; rw [lay_all zeroI.cells _ (by rw [lz, la])] at b5; have hlr := loadRef_run w5 wr.heap.size 0 a.ref (InV.range_ref b5.whole) HAR.out; have c34 := InV.c34 b5.whole HAR.out; have B5 := hide b5; have HB5 := hide (HBX.out.trans (o5.below HBX.out.size (fun i hi e => by have h9 : i = wr.heap.size := e; omega))); have KZ5 := hide (Blk.new w5 68 zeroI.cells); clear o5 z5 b5; simp only [Act.put])
          | (refine wpList_store_blk rfl 68 _ _ rfl w5.heap.size 0 68 zeroI.cells (⟨a.ref, none, 0, 0, [], a.order⟩ : InV).cells (by rfl) (by rfl) KZ5.out (by rw [lz, lb]; decide) (by rw [hI, lb]) (InV.one _) ?_; intro w7 o7 z7 b7; rw [lay_all zeroI.cells _ (by rw [lz, lb])] at b7; have HB7 := hide ((below_alloc HB5.out _).trans (o7.below (below_alloc HB5.out _).size (fun i hi e => by have h9 : i = w5.heap.size := e; have := HB5.out.size; omega))); have c33 : w7.cell? ⟨w5.heap.size, 33, none⟩ = some (.slice none 0 0) := InV.c33 (a := ⟨a.ref, none, 0, 0, [], a.order⟩) b7.whole HAR.out; have f33 := b7.frozen 33; have HB8 := hide (show Below wr.heap.size wr (w7.setCell ⟨w5.heap.size, 33, none⟩ (.slice B m d)) from (HB7.out.setCell (p := ⟨w5.heap.size, 33, none⟩) (by have := HB5.out.size; simpa using this) _)); have HR8 : (w7.setCell ⟨w5.heap.size, 33, none⟩ (.slice B m d)).rangeAt w5.heap.size 0 (a.bareV k i B m d bs).cells := (by rw [HBV.out, InV.with_cells (⟨a.ref, none, 0, 0, [], a.order⟩ : InV) HAR.out B m d bs]; exact (b7.set_ 33 _).whole); have Tp := (HI.out.blk.under HB8.out); have k1 := Tp.c1; have hld := loadIn_run (w7.setCell ⟨w5.heap.size, 33, none⟩ (.slice B m d)) w5.heap.size 0 (a.bareV k i B m d bs) HR8 HRF.out; have hmks := mkIns_run (w7.setCell ⟨w5.heap.size, 33, none⟩ (.slice B m d)) (a.bareV k i B m d bs) HRF.out; have HB9 := hide (below_alloc HB8.out (.cells (a.bareV k i B m d bs).cells.toArray 68)); have hrow := hide ((Only.of_below HB9.out (fun _ => False)).own HI.out.row (fun _ _ hf => hf)); have Tp9 := hide (HI.out.blk.under HB9.out); clear Tp HR8; clear o7 z7 b7; simp only [Act.put])
          | (at_builtin; refine wpList_row rfl 40 rfl _ _ 63 rfl 68 35 72 Try.underlying63 in_infoR (by decide) w3.heap.size (.slice A k c) k (((bareAt i B m d bs t.ins t.ins.length).take k).flatMap InV.cells) (by rfl) hrow.out (Nat.le_trans HI.out.only.size HB9.out.size) w7.heap.size 0 1 1 (a.bareV k i B m d bs).cells (by rfl) (by rw [InV.cells_len HRF.out]) (by have h9 := (Blk.new (w7.setCell ⟨w5.heap.size, 33, none⟩ (.slice B m d)) 68 (a.bareV k i B m d bs).cells).whole; rw [show (w7.setCell ⟨w5.heap.size, 33, none⟩ (.slice B m d)).heap.size = w7.heap.size by simp] at h9; exact h9) (InV.one _) (by omega) (by decide) ?_; intro A9 c9 w9 q1 q2 q3 q4; have hT9 := q4.blk Tp9.out hnw.out; have c1 : w9.cell? ⟨p, 1, none⟩ = some (.slice A k c) := hT9.c1; have f1 := hT9.frozen 1; simp only [Act.put, List.setIfInBounds_toArray, List.set_cons_zero, List.set_cons_succ]))
        have hfin := hide (HI.out.next (by have := hz3.out; omega) HB9.out q1 q3 q4)
        exact ⟨⟨k + 1, A9, c9, by omega, by simp, by rw [HTK.out]; exact hfin.out⟩, by simp [intOf]; omega⟩
      · have hc : ((k : Int) == i) = false := by simp [hki]
        have HBV := hide (show a.bareV k i B m d bs = (⟨a.ref, none, 0, 0, [], a.order⟩ : InV) by unfold InV.bareV; rw [if_neg hki]; rfl)
        have HKI := hide hki
        clear hki
        go_wp2_with (first
          | (refine wpList_alloc_agg rfl 68 rfl zeroI.cells zeroIn_info ?_; simp only [Act.put, List.setIfInBounds_toArray, List.set_cons_zero, List.set_cons_succ])
          | (refine wpList_store_blk rfl 68 _ _ rfl wr.heap.size 0 68 zeroI.cells a.cells (by rfl) (by rfl) KZ.out (by rw [lz, la]; decide) (by rw [hI, la]) (InV.one a) ?_; intro w5 o5 z5 b5; rw [lay_all zeroI.cells _ (by rw [lz, la])] at b5; have hlr := loadRef_run w5 wr.heap.size 0 a.ref (InV.range_ref b5.whole) HAR.out; have c34 := InV.c34 b5.whole HAR.out; have B5 := hide b5; have HB5 := hide (HBX.out.trans (o5.below HBX.out.size (fun i hi e => by have h9 : i = wr.heap.size := e; omega))); have KZ5 := hide (Blk.new w5 68 zeroI.cells); clear o5 z5 b5; simp only [Act.put])
          | (refine wpList_store_blk rfl 68 _ _ rfl w5.heap.size 0 68 zeroI.cells (⟨a.ref, none, 0, 0, [], a.order⟩ : InV).cells (by rfl) (by rfl) KZ5.out (by rw [lz, lb]; decide) (by rw [hI, lb]) (InV.one _) ?_; intro w7 o7 z7 b7; rw [lay_all zeroI.cells _ (by rw [lz, lb])] at b7; have HB7 := hide ((below_alloc HB5.out _).trans (o7.below (below_alloc HB5.out _).size (fun i hi e => by have h9 : i = w5.heap.size := e; have := HB5.out.size; omega))); have HB8 := hide (show Below wr.heap.size wr w7 from HB7.out); have HR8 : w7.rangeAt w5.heap.size 0 (a.bareV k i B m d bs).cells := (by rw [HBV.out]; exact b7.whole); have Tp := (HI.out.blk.under HB8.out); have k1 := Tp.c1; have hld := loadIn_run w7 w5.heap.size 0 (a.bareV k i B m d bs) HR8 HRF.out; have hmks := mkIns_run w7 (a.bareV k i B m d bs) HRF.out; have HB9 := hide (below_alloc HB8.out (.cells (a.bareV k i B m d bs).cells.toArray 68)); have hrow := hide ((Only.of_below HB9.out (fun _ => False)).own HI.out.row (fun _ _ hf => hf)); have Tp9 := hide (HI.out.blk.under HB9.out); clear Tp HR8; clear o7 z7 b7; simp only [Act.put])
          | (at_builtin; refine wpList_row rfl 40 rfl _ _ 63 rfl 68 35 72 Try.underlying63 in_infoR (by decide) w3.heap.size (.slice A k c) k (((bareAt i B m d bs t.ins t.ins.length).take k).flatMap InV.cells) (by rfl) hrow.out (Nat.le_trans HI.out.only.size HB9.out.size) w7.heap.size 0 1 1 (a.bareV k i B m d bs).cells (by rfl) (by rw [InV.cells_len HRF.out]) (Blk.new w7 68 _).whole (InV.one _) (by omega) (by decide) ?_; intro A9 c9 w9 q1 q2 q3 q4; have hT9 := q4.blk Tp9.out hnw.out; have c1 : w9.cell? ⟨p, 1, none⟩ = some (.slice A k c) := hT9.c1; have f1 := hT9.frozen 1; simp only [Act.put, List.setIfInBounds_toArray, List.set_cons_zero, List.set_cons_succ]))
        have hfin := hide (HI.out.next (by have := hz3.out; omega) HB9.out q1 q3 q4)
        exact ⟨⟨k + 1, A9, c9, by omega, by simp, by rw [HTK.out]; exact hfin.out⟩, by simp [intOf]; omega⟩
    · obtain rfl : k = t.iN := by omega
      have hlt' : ¬ (t.iN : Int) < (t.iN : Int) := by omega
      have htake : (bareAt i B m d bs t.ins t.ins.length).take t.iN = bareAt i B m d bs t.ins t.ins.length := List.take_of_length_le (by rw [bareAt_len, hil.out]; exact Nat.le_refl _)
      obtain ⟨V, hV⟩ : ∃ V, V = hashV t A c i B m d bs := ⟨_, rfl⟩
      have hVc : txcells t.version A t.iN c t.oA t.oN t.oC t.until_ = V.cells := by rw [hV]; rfl
      have Tr := HI.out.blk
      rw [hVc] at Tr
      have hld := loadTx_run wr p 0 V Tr.whole
      have HVS := hide (show V.Small by rw [hV]; exact hashV_small HS.out A c i B m d bs HM.out)
      have HVd := hide (show V.d = signT t.d i bs by rw [hV]; exact hashV_d t A c i B m d bs)
      have hcap : t.iN ≤ c := by
        rcases HI.out.row.2 with ⟨e1, h0⟩ | ⟨g, cap, cur, e1, _, _, hnc, _⟩
        · omega
        · injection e1 with _ _ e3; omega
      have hfr := bareAt_fine (i := i) (k := t.ins.length) (fun a ha => (HF.out.below HBr.out).ins.2.1 a ha) (HB.out.below HBr.out) HC.out
      have HVF := hide (show V.Fine wr by
        rw [hV]
        refine ⟨HF.out.version, HF.out.until_, ?_, HF.out.outs.below' HBr.out, hcap, HF.out.ocap⟩
        have hrow := HI.out.row
        rw [htake] at hrow
        exact rows_of (cells := InV.cells) (k := 35) (show (bareAt i B m d bs t.ins t.ins.length).length = t.iN by rw [bareAt_len]; exact hil.out) (fun a ha => InV.cells_len (hfr a ha).ref) hrow hfr)
      have HKr := hide (HI.out.only.blk HK3.out (show ¬ w.heap.size + 1 = p by have := HP.out; omega))
      obtain ⟨U, hU⟩ : ∃ U : Int, U = i % 4294967296 := ⟨_, rfl⟩
      have h32 : IntKind.u32.wrap i = U := by rw [hU]; rfl
      have hU0 : 0 ≤ U := by omega
      have hU1 : U ≤ 4294967295 := by omega
      have h64 : IntKind.u64.wrap U = U := u64_small U hU0 hU1
      have HU := hide hU
      clear Tr hU hV hVc htake hcap hfr
      go_wp2_with fail
      refine (refTBytes_any wr V HVF.out HVS.out).mono ?_
      rintro e w5 ⟨A5, n5, c5, rfl, t5, f5⟩
      have HT5 := hide t5
      have HB5 := hide (Below.then_ HBr.out t5.below)
      have HK5 := hide (HKr.out.under t5.below)
      have hn5 := hide t5.len
      clear t5 f5 hld
      go_wp2_with fail
      refine (reffixed_any w5 w5 U 4 (Below.refl _ _) hU0 (by omega)).mono ?_
      rintro e w6 ⟨A6, n6, c6, rfl, t6, f6⟩
      obtain ⟨D, hDD⟩ : ∃ D, D = (signT t.d i bs).bytes ++ dig (i % 4294967296).toNat 4 := ⟨_, rfl⟩
      have hD : V.d.bytes ++ dig U.toNat (Rd.within 4).toNat = D := by rw [HVd.out, HU.out, hDD]; rfl
      have HD := hide hD
      have hDH := hide (show sha2 D = hashT t.d i bs by rw [hDD]; rfl)
      have hDL := hide (show D.length ≤ 100000000 by
        have hv := TxV.bytes_len2 HVF.out HVS.out
        rw [hDD, ← HVd.out, List.length_append, dig_length]
        omega)
      have HT6 := hide (HT5.out.keep t6.below)
      have HK6 := hide (HK5.out.under t6.below)
      have HY6 := hide t6.bys
      have hl6 := hide (show n5 + n6 ≤ 140737488355328 by
        have h1 := t6.len
        have h2 := hn5.out
        have h3 := TxV.bytes_len2 HVF.out HVS.out
        rw [dig_length] at h1
        have h4 : (Rd.within 4).toNat = 4 := rfl
        omega)
      clear t6 f6 hD hDD
      go_wp2_with (at_builtin; refine wpList_app rfl _ _ rfl wr A5 n5 c5 V.d.bytes (by rfl) HT6.out A6 n6 c6 _ (by rfl) HY6.out hl6.out ?_; intro A7 n7 c7 w7 t7 f7; rw [HD.out] at t7; have HT7 := hide t7; clear t7 f7; simp only [Act.put, List.setIfInBounds_toArray, List.set_cons_zero, List.set_cons_succ])
      have HK7 := hide (HKr.out.under HT7.out.below)
      have HB7 := hide (Below.then_ HBr.out HT7.out.below)
      have hn7 := hide HT7.out.len
      refine (rtwice_any w7 A7 n7 c7 D HT7.out.bys (by have h1 := hDL.out; have h2 := hn7.out; omega)).mono ?_
      rintro e w8 ⟨rfl, hb8⟩
      rw [hDH.out]
      have K8 := hide (HK7.out.under hb8)
      have hbw := hide (Below.then_ HB7.out hb8)
      go_wp2_with (refine wpList_store_blk rfl 44 _ _ rfl (w.heap.size + 1) 0 44 (bcs zero32) (bcs (hashT t.d i bs)) (by rfl) (by rfl) K8.out (by rw [lz32, lsh2]; decide) (by rw [hIH, lsh2]) (bcs_one _) ?_; intro w9 o9 z9 b9; simp only [Act.put])
      rw [lay_all (bcs zero32) _ (by rw [lz32, lsh2])] at b9
      refine bodyPost_ret (results_cell_blk rfl _ _ (w.heap.size + 1) 44 _ _ (by rfl) b9 hHH.out rfl (by rw [hIH, lsh2])) rfl ⟨rfl, ?_⟩
      exact hbw.out.trans (o9.below hbw.out.size (fun i hi e => by have h9 : i = w.heap.size + 1 := e; omega))
end Go.Proofs.Ytfloclamdpageaa
/-
  Rows turned from the beginning on; copies of transactions with other Ins, Outs, ends: plain laws on worlds.
-/
namespace Go.Proofs.Ytfloclamdpageaa
open Go.RowKit

/-- The first k of them turned. -/
def turnAt {α : Type} (f : α → α) (xs : List α) (k : Nat) : List α := xs.mapIdx fun j a => if j < k then f a else a
section
variable {α : Type} {f : α → α} {xs : List α} {k : Nat}
theorem turnAt_zero : turnAt f xs 0 = xs := by
  refine List.ext_getElem? fun j => ?_
  simp [turnAt]
theorem turnAt_len : (turnAt f xs k).length = xs.length := by simp [turnAt]
theorem turnAt_get {a : α} (h : xs[k]? = some a) : (turnAt f xs k)[k]? = some a := by simp [turnAt, h]
theorem turnAt_set {a : α} (h : xs[k]? = some a) : (turnAt f xs k).set k (f a) = turnAt f xs (k + 1) := by
  have hk : k < xs.length := (List.getElem?_eq_some_iff.1 h).1
  refine List.ext_getElem? fun j => ?_
  rw [List.getElem?_set]
  by_cases hj : k = j
  · subst hj
    rw [if_pos rfl, if_pos (by rw [turnAt_len]; exact hk)]
    simp [turnAt, h]
  · rw [if_neg hj]
    simp only [turnAt, List.getElem?_mapIdx]
    rcases xs[j]? with _ | b
    · rfl
    · simp only [Option.map_some]
      by_cases h1 : j < k
      · rw [if_pos h1, if_pos (by omega)]
      · rw [if_neg h1, if_neg (by omega)]
theorem turnAt_all : turnAt f xs xs.length = xs.map f := by
  refine List.ext_getElem? fun j => ?_
  simp only [turnAt, List.getElem?_mapIdx, List.getElem?_map]
  rcases hx : xs[j]? with _ | b
  · rfl
  · simp only [Option.map_some, if_pos (List.getElem?_eq_some_iff.1 hx).1]
theorem turnAt_mem {a : α} (h : a ∈ turnAt f xs k) : ∃ b ∈ xs, a = b ∨ a = f b := by
  obtain ⟨j, hj⟩ := List.mem_iff_getElem?.1 h
  simp only [turnAt, List.getElem?_mapIdx] at hj
  rcases hx : xs[j]? with _ | b
  · rw [hx] at hj; simp at hj
  · rw [hx] at hj
    simp only [Option.map_some, Option.some.injEq] at hj
    refine ⟨b, List.mem_of_getElem? hx, ?_⟩
    by_cases h1 : j < k
    · rw [if_pos h1] at hj; exact .inr hj.symm
    · rw [if_neg h1] at hj; exact .inl hj.symm
end
/-- Elements side by side, as one row. -/
theorem flat_range {α : Type} {cells : α → List Value} {k : Nat} {w : World} {b : Nat} : ∀ (xs : List α) (off : Nat), (∀ a ∈ xs, (cells a).length = k) → (∀ (i : Nat) (a : α), xs[i]? = some a → w.rangeAt b (off + i * k) (cells a)) → w.rangeAt b off (xs.flatMap cells)
  | [], _, _, _ => fun j v hv => by simp at hv
  | x :: xs, off, hk, h => fun j v hv => by
    have hx := hk x (by simp)
    rw [List.flatMap_cons] at hv
    by_cases hj : j < k
    · rw [List.getElem?_append_left (by omega)] at hv
      have := h 0 x rfl j v hv
      simpa using this
    · rw [List.getElem?_append_right (by omega), hx] at hv
      have h1 := flat_range xs (off + k) (fun a ha => hk a (by simp [ha])) (fun i a ha => by
        have := h (i + 1) a (by simpa using ha)
        rwa [show off + (i + 1) * k = off + k + i * k by rw [Nat.succ_mul]; omega] at this) (j - k) v hv
      rwa [show off + k + (j - k) = off + j by omega] at h1
theorem flat_len {α : Type} {cells : α → List Value} {k : Nat} : ∀ (xs : List α), (∀ a ∈ xs, (cells a).length = k) → (xs.flatMap cells).length = xs.length * k
  | [], _ => by simp
  | x :: xs, h => by rw [List.flatMap_cons, List.length_append, h x (by simp), flat_len xs (fun a ha => h a (by simp [ha])), List.length_cons, Nat.succ_mul]; omega
theorem flat_one' {α : Type} {cells : α → List Value} (xs : List α) (h : ∀ a ∈ xs, ∀ v ∈ cells a, v.oneCell' = true) : ∀ v ∈ xs.flatMap cells, v.oneCell' = true := fun v hv => by
  obtain ⟨a, ha, h2⟩ := List.mem_flatMap.1 hv
  exact h a ha v h2
theorem OutV.one (a : OutV) : ∀ v ∈ a.cells, v.oneCell' = true := by
  intro v hv
  simp only [OutV.cells, List.mem_cons, List.mem_nil_iff, or_false] at hv
  rcases hv with rfl | rfl <;> rfl
/-- A row in a block, read as elements. -/
theorem rowB_rows {α : Type} {cells : α → List Value} {k : Nat} {fine : World → α → Prop} {w : World} {g n : Nat} {e : TypeId} {ys : List α} (h : RowB w g e (ys.flatMap cells)) (hk : ∀ a ∈ ys, (cells a).length = k) (hl : ys.length = n) (hf : ∀ x ∈ ys, fine w x) : RowsIn cells k fine w (some ⟨g, 0, none⟩) n ys := by
  refine ⟨hl, hf, fun _ => ⟨g, 0, rfl, fun i a ha j u hu => ?_⟩⟩
  refine h.cell _ _ ?_
  have key : ∀ (ys : List α) (i : Nat), (∀ x ∈ ys, (cells x).length = k) → ys[i]? = some a → ∀ j u, (cells a)[j]? = some u → (ys.flatMap cells)[i * k + j]? = some u := by
    intro ys
    induction ys with
    | nil => intro i _ h; simp at h
    | cons y ys ih =>
      intro i hf h j u hu
      have hy := hf y (by simp)
      cases i with
      | zero => simp at h; subst h; rw [List.flatMap_cons, List.getElem?_append_left (by have := (List.getElem?_eq_some_iff.1 hu).1; omega)]; simpa using hu
      | succ i =>
        rw [List.flatMap_cons, List.getElem?_append_right (by rw [Nat.succ_mul]; omega), hy, show (i + 1) * k + j - k = i * k + j by rw [Nat.succ_mul]; omega]
        exact ih i (fun x hx => hf x (by simp [hx])) (by simpa using h) j u hu
  rw [Nat.zero_add]
  exact key ys i hk ha j u hu
/-- What is signed does not hang on what opens. -/
theorem signT_unlock (t : TxD) (i : Int) (lock other : List Int) : signT ⟨t.version, t.ins.map (fun a => ⟨a.ref, other, a.order⟩), t.outs, t.until_⟩ i lock = signT t i lock := by
  simp only [signT, TxD.mk.injEq, true_and, and_true]
  refine List.ext_getElem? fun j => ?_
  simp only [List.getElem?_mapIdx, List.getElem?_map]
  rcases t.ins[j]? with _ | a
  · rfl
  · rfl
theorem hashT_unlock (t : TxD) (i : Int) (lock other : List Int) : hashT ⟨t.version, t.ins.map (fun a => ⟨a.ref, other, a.order⟩), t.outs, t.until_⟩ i lock = hashT t i lock := by
  rw [hashT, signT_unlock]; rfl
/-- A bit turned. -/
theorem xor_bits (x : Int) : ∃ y : Int, (-9223372036854775808 ≤ y ∧ y ≤ 9223372036854775807) ∧ bits BinOp.xor IntKind.i64 x 1 = y := by
  refine ⟨_, ?_, rfl⟩
  unfold bits
  simp only
  rw [IntKind.wrap_i64]
  omega
set_option maxRecDepth 100000 in
theorem two_bytes {H : Type} {enc : TypeId × Value → H} {W : World} {r : Reach} {b0 : Nat} {v : Value} {d : DataW H} {p : List MemPlace} (hv : Value.okWide Try.prog W r b0 85 v) (h : DataW.Trod enc Try.prog W 0 (fun _ => true) true 85 v d p) :
    ∃ A n c A' n' c' xs xs', v = .agg #[.slice A n c, .slice A' n' c'] ∧ (Bys W A n xs ∧ n ≤ c) ∧ (Bys W A' n' xs' ∧ n' ≤ c') := by
  obtain ⟨cs, rfl, hs⟩ := okWide_array Try.underlying85 hv
  have hc : Try.prog.cellsOf 85 = 2 := by kernel_rfl
  rw [hc] at hs
  obtain ⟨fuel, hf⟩ := h
  match cs, hs with
  | ⟨[x0, x1]⟩, _ =>
    obtain ⟨m, y0, y1, h0, h1⟩ := two_of_array Try.underlying85 (by kernel_rfl) hf
    obtain ⟨A, n, c, bs, e, g1, g2, g3⟩ := bys_of_cells Try.underlying22 Try.underlying5 (by kernel_rfl) h0
    obtain ⟨A', n', c', bs', e', g1', g2', g3'⟩ := bys_of_cells Try.underlying22 Try.underlying5 (by kernel_rfl) h1
    subst e
    subst e'
    exact ⟨A, n, c, A', n', c', bs, bs', rfl, ⟨g1, g2⟩, g1', g2'⟩
end Go.Proofs.Ytfloclamdpageaa
