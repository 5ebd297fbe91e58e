import Derived.Test.YtbpmcnfmgaolnaaPk21
import Derived.Test.YtbpmcnfmgaolnaaPk22
import Derived.Test.YtbpmcnfmgaolnaaPk15
import Derived.Test.YtbpmcnfmgaolnaaPk19
import Derived.Test.YtbpmcnfmgaolnaaPk10
import Derived.Test.YtbpmcnfmgaolnaaPk18
/-
  May a block be, by itself? The program's and the document's.
-/
namespace Go.Proofs.Ytbpmcnfmgaolnaa
open Go.RowKit

theorem basesOk_iff (l : List TxD) (hl : l ≠ []) : basesOk l = true ↔ ∀ (j : Nat) (t : TxD), l[j]? = some t → baseT t.ins = decide (j = 0) := by
  rcases l with _ | ⟨a, l⟩
  · exact absurd rfl hl
  · rw [basesOk, Bool.and_eq_true, List.all_eq_true]
    constructor
    · rintro ⟨h1, h2⟩ j t h
      rcases j with _ | j
      · simp at h; subst h; simpa using h1
      · have := h2 t (List.mem_of_getElem? (by simpa using h))
        simpa using this
    · intro h
      refine ⟨by simpa using h 0 a rfl, fun t ht => ?_⟩
      obtain ⟨j, hj⟩ := List.getElem?_of_mem ht
      have := h (j + 1) t (by simpa using hj)
      simpa using this
theorem basesOk_not (l : List TxD) (j : Nat) (t : TxD) (h : l[j]? = some t) (hb : baseT t.ins ≠ decide (j = 0)) : basesOk l = false := by
  rcases e : basesOk l with _ | _
  · rfl
  · have hl : l ≠ [] := fun e => by rw [e] at h; cases h
    exact absurd ((basesOk_iff l hl).1 e j t h) hb
theorem firstErr_at : ∀ (l : List TxD) (j : Nat) (t : TxD), (∀ k, k < j → ∀ t, l[k]? = some t → checkT t = 0) → l[j]? = some t → checkT t ≠ 0 → firstErr l = checkT t
  | [], _, _, _, h, _ => by cases h
  | a :: l, 0, t, _, h, hn => by simp at h; subst h; rw [firstErr, if_pos hn]
  | a :: l, j + 1, t, hp, h, hn => by
    rw [firstErr, if_neg (by rw [hp 0 (by omega) a rfl]; simp)]
    exact firstErr_at l j t (fun k hk t ht => hp (k + 1) (by omega) t (by simpa using ht)) (by simpa using h) hn
theorem firstErr_none : ∀ (l : List TxD), (∀ t ∈ l, checkT t = 0) → firstErr l = 0
  | [], _ => rfl
  | a :: l, h => by
    rw [firstErr, if_neg (by rw [h a (by simp)]; simp)]
    exact firstErr_none l (fun t ht => h t (by simp [ht]))
theorem blk_root {w : World} {g : Nat} {t : TypeId} {b : BlkV} (hb : Blk w g t b.cells) (hf : b.head.Fine) : w.rangeAt g 33 (bcs b.head.root) := fun j v hv => by
  obtain ⟨x, hx, rfl⟩ : ∃ x, b.head.root[j]? = some x ∧ .int .u8 x = v := by simpa [bcs] using hv
  obtain ⟨g', o', e, h⟩ := (head_root (l := [.slice b.A b.n b.c]) hb hf).2.2 (by decide)
  injection e with e
  injection e with e1 e2 _
  subst e1
  subst e2
  exact h j x hx
attribute [local go_sem ↓] loadTx_fold loadBlk_fold loadHash_fold eqlHash_fold neqHash_fold
set_option maxHeartbeats 8000000 in
set_option maxRecDepth 100000 in
theorem BCheck_any (w : World) (b : BlkV) (hf : b.Fine w) (hs : b.Small) :
    Calls Try.prog 36 #[.agg b.cells.toArray] w fun e w' => e = .returned (.int .i64 (checkB b.d)) ∧ Below w.heap.size w w' := by
  have B0 := Blk.new w 40 b.cells
  have hb0 := hide (show Below w.heap.size w (w.alloc (.cells b.cells.toArray 40)) from below_alloc (Below.refl _ _) _)
  have HB0 := hide B0
  have HF := hide (hf.below hb0.out)
  have HS := hide hs
  have HN := hide hs.n
  have hlen := hide hf.txs.1
  have hdl := hide (show b.d.txs.length = b.n by simp [BlkV.d, hf.txs.1])
  have k68 := blk_txs B0 hf.head
  have hld0 := loadBlk_run (w.alloc (.cells b.cells.toArray 40)) w.heap.size 0 b B0.whole hf.head
  clear hf hs B0
  by_cases h1 : b.n = 0
  · have hc1 : ((b.n : Int) == 0) = true := by simp [h1]
    have hres := hide (show checkB b.d = 111 by unfold checkB; rw [if_pos (.inl (by rw [hdl.out]; exact h1))])
    clear h1
    go_enter Try.func36, Try.ntmps36
    go_wp2_with fail
    go_ret
    exact ⟨by rw [hres.out]; rfl, hb0.out⟩
  · have hc1 : ((b.n : Int) == 0) = false := by simp; omega
    have HN0 := hide h1
    clear h1
    go_enter Try.func36, Try.ntmps36
    go_wp2_with fail
    refine (BBytes_any _ b HF.out HS.out).mono ?_
    rintro e w2 ⟨A2, n2, c2, rfl, t2, f2⟩
    have hl2 := hide (show b.d.bytes.length = n2 from t2.len)
    have HB2 := hide (HB0.out.under t2.below)
    have HF2 := hide (HF.out.below t2.below)
    have hb2 := hide (Below.then_ hb0.out t2.below)
    have k682 := blk_txs HB2.out HF2.out.head
    clear t2 f2 k68 hld0 hc1
    by_cases h2 : 20000 < n2
    · have hc2 : (20000 : Int) < (n2 : Int) := by omega
      have hres := hide (show checkB b.d = 111 by unfold checkB; rw [if_pos (.inr (by rw [hl2.out]; exact h2))])
      clear h2
      go_wp2_with fail
      go_ret
      exact ⟨by rw [hres.out]; rfl, hb2.out⟩
    · have hc2 : ¬ (20000 : Int) < (n2 : Int) := by omega
      have H2 := hide h2
      clear h2
      go_wp2_with fail
      have HC1 := hide (show ¬ (b.d.txs.length = 0 ∨ 20000 < b.d.bytes.length) by rw [hdl.out, hl2.out]; have := HN0.out; have := H2.out; omega)
      have hn9 : (b.n : Int) ≤ 1000 := by have := HN.out; omega
      have hget := hide (fun (j : Nat) (t : TxV) (h : b.txs[j]? = some t) => show b.d.txs[j]? = some t.d by simp [BlkV.d, h])
      clear k682 hc2
      go_loopw [23] (fun i ws => ∃ j : Nat, j ≤ b.n ∧ i = .int .i64 (j : Int) ∧ Below w2.heap.size w2 ws ∧ ∀ k, k < j → ∀ t, b.d.txs[k]? = some t → baseT t.ins = decide (k = 0)) (fun i _ => b.n - (intOf i).toNat)
      case atStart => exact ⟨0, by omega, rfl, Below.refl _ _, fun k hk => by omega⟩
      case round =>
        obtain ⟨j, hj, rfl, hbr, hpre⟩ := hrel
        have HBR := hide hbr
        have HPRE := hide hpre
        clear hbr hpre
        by_cases hlt : j < b.n
        · obtain ⟨t, hta⟩ : ∃ t, b.txs[j]? = some t := ⟨_, List.getElem?_eq_getElem (by have := hlen.out; omega)⟩
          obtain ⟨pb, off, hpa, hrow⟩ := HF2.out.txs.2.2 (by omega)
          have hld := loadTx_run wr pb (off + j * 4) t (range_under (hrow j t hta) HBR.out)
          have HTF := hide ((HF2.out.txs.2.1 t (List.mem_of_getElem? hta)).below HBR.out)
          have HTS := hide (HS.out.txs t (List.mem_of_getElem? hta))
          have HTD := hide (hget.out j t hta)
          have i0 : (0 : Int) ≤ (j : Int) := by omega
          have i1 : (j : Int) < (b.n : Int) := by omega
          clear hrow hta
          rw [hpa]
          by_cases hj0 : j = 0
          · have hcj : ((j : Int) == 0) = true := by simp [hj0]
            have hcg : ¬ (0 : Int) < (j : Int) := by omega
            have HJ0 := hide (show decide (j = 0) = true by simp [hj0])
            clear hj0
            go_wp2_with (first
              | (refine wpList_alloc_agg rfl 37 rfl zeroV.cells zeroTx_info ?_; simp only [Act.put, List.setIfInBounds_toArray, List.set_cons_zero, List.set_cons_succ])
              | (refine tx_store rfl _ _ rfl wr rfl (by rfl) t (by rfl) ?_; intro w5 b5 s5 k5; have l5 := loadTx_run w5 wr.heap.size 0 t k5.whole; have B5 := hide b5; clear b5 s5 k5; simp only [Act.put]))
            refine (TBase_any w5 t (HTF.out.below B5.out) HTS.out).mono ?_
            rintro e w6 ⟨rfl, b6⟩
            have HB6 := hide (Below.then_ (Below.then_ HBR.out B5.out) b6)
            obtain ⟨q, hq⟩ : ∃ q, q = baseT (t.ins.map InV.d) := ⟨_, rfl⟩
            rw [← hq]
            have HERR := hide (fun (h : q ≠ decide (j = 0)) => show checkB b.d = 111 by unfold checkB; rw [if_neg HC1.out, if_pos (basesOk_not _ j t.d HTD.out (by show baseT (t.ins.map InV.d) ≠ _; rw [← hq]; exact h))])
            have HNX := hide (fun (h : q = decide (j = 0)) => show ∀ k, k < j + 1 → ∀ t', b.d.txs[k]? = some t' → baseT t'.ins = decide (k = 0) from fun k hk t' ht' => by
              rcases Nat.lt_or_ge k j with h9 | h9
              · exact HPRE.out k h9 t' ht'
              · obtain rfl : k = j := by omega
                have h8 := HTD.out
                rw [ht'] at h8
                injection h8 with h8
                rw [h8]
                show baseT (t.ins.map InV.d) = _
                rw [← hq, h])
            clear b6 hq l5 hld
            cases q
            · go_wp2_with fail
              go_ret
              exact ⟨by rw [HERR.out (by rw [HJ0.out]; decide)]; rfl, Below.then_ hb2.out HB6.out⟩
            · go_wp2_with fail
              exact ⟨⟨j + 1, by omega, by simp, HB6.out, HNX.out (by rw [HJ0.out])⟩, by simp [intOf]; omega⟩
          · have hcj : ((j : Int) == 0) = false := by simp; omega
            have hcg : (0 : Int) < (j : Int) := by omega
            have HJ0 := hide (show decide (j = 0) = false by simp [hj0])
            clear hj0
            go_wp2_with (first
              | (refine wpList_alloc_agg rfl 37 rfl zeroV.cells zeroTx_info ?_; simp only [Act.put, List.setIfInBounds_toArray, List.set_cons_zero, List.set_cons_succ])
              | (refine tx_store rfl _ _ rfl wr rfl (by rfl) t (by rfl) ?_; intro w5 b5 s5 k5; have l5 := loadTx_run w5 wr.heap.size 0 t k5.whole; have B5 := hide b5; clear b5 s5 k5; simp only [Act.put]))
            refine (TBase_any w5 t (HTF.out.below B5.out) HTS.out).mono ?_
            rintro e w6 ⟨rfl, b6⟩
            have HB6 := hide (Below.then_ (Below.then_ HBR.out B5.out) b6)
            obtain ⟨q, hq⟩ : ∃ q, q = baseT (t.ins.map InV.d) := ⟨_, rfl⟩
            rw [← hq]
            have HERR := hide (fun (h : q ≠ decide (j = 0)) => show checkB b.d = 111 by unfold checkB; rw [if_neg HC1.out, if_pos (basesOk_not _ j t.d HTD.out (by show baseT (t.ins.map InV.d) ≠ _; rw [← hq]; exact h))])
            have HNX := hide (fun (h : q = decide (j = 0)) => show ∀ k, k < j + 1 → ∀ t', b.d.txs[k]? = some t' → baseT t'.ins = decide (k = 0) from fun k hk t' ht' => by
              rcases Nat.lt_or_ge k j with h9 | h9
              · exact HPRE.out k h9 t' ht'
              · obtain rfl : k = j := by omega
                have h8 := HTD.out
                rw [ht'] at h8
                injection h8 with h8
                rw [h8]
                show baseT (t.ins.map InV.d) = _
                rw [← hq, h])
            clear b6 hq l5 hld
            cases q
            · go_wp2_with fail
              exact ⟨⟨j + 1, by omega, by simp, HB6.out, HNX.out (by rw [HJ0.out])⟩, by simp [intOf]; omega⟩
            · go_wp2_with fail
              go_ret
              exact ⟨by rw [HERR.out (by rw [HJ0.out]; decide)]; rfl, Below.then_ hb2.out HB6.out⟩
        · obtain rfl : j = b.n := by omega
          have i1 : ¬ (b.n : Int) < (b.n : Int) := by omega
          have k683 := blk_txs (HB2.out.under HBR.out) HF2.out.head
          have HOK := hide (show basesOk b.d.txs = true from (basesOk_iff _ (fun e => by have := hdl.out; rw [e] at this; have := HN0.out; simp at *; omega)).2 (fun k t ht => HPRE.out k (by have h9 := (List.getElem?_eq_some_iff.1 ht).1; rw [hdl.out] at h9; exact h9) t ht))
          clear hlt hj
          go_wp2_with fail
          obtain ⟨w3, hw3⟩ : ∃ x, x = wr := ⟨_, rfl⟩
          rw [← hw3] at HBR k683 ⊢
          clear hw3 k683
          go_loopw [37] (fun i ws => ∃ j : Nat, j ≤ b.n ∧ i = .int .i64 (j : Int) ∧ Below w2.heap.size w2 ws ∧ ∀ k, k < j → ∀ t, b.d.txs[k]? = some t → checkT t = 0) (fun i _ => b.n - (intOf i).toNat)
          case atStart => exact ⟨0, by omega, rfl, HBR.out, fun k hk => by omega⟩
          case round =>
            obtain ⟨j, hj, rfl, hbr, hpre⟩ := hrel
            have HBR2 := hide hbr
            have HPRE2 := hide hpre
            clear hbr hpre
            by_cases hlt : j < b.n
            · obtain ⟨t, hta⟩ : ∃ t, b.txs[j]? = some t := ⟨_, List.getElem?_eq_getElem (by have := hlen.out; omega)⟩
              obtain ⟨pb, off, hpa, hrow⟩ := HF2.out.txs.2.2 (by omega)
              have hld := loadTx_run wr pb (off + j * 4) t (range_under (hrow j t hta) HBR2.out)
              have HTF := hide ((HF2.out.txs.2.1 t (List.mem_of_getElem? hta)).below HBR2.out)
              have HTS := hide (HS.out.txs t (List.mem_of_getElem? hta))
              have HTD := hide (hget.out j t hta)
              have i0 : (0 : Int) ≤ (j : Int) := by omega
              have i1 : (j : Int) < (b.n : Int) := by omega
              clear hrow hta
              rw [hpa]
              go_wp2_with (first
                | (refine wpList_alloc_agg rfl 37 rfl zeroV.cells zeroTx_info ?_; simp only [Act.put, List.setIfInBounds_toArray, List.set_cons_zero, List.set_cons_succ])
                | (refine tx_store rfl _ _ rfl wr rfl (by rfl) t (by rfl) ?_; intro w5 b5 s5 k5; have l5 := loadTx_run w5 wr.heap.size 0 t k5.whole; have B5 := hide b5; clear b5 s5 k5; simp only [Act.put]))
              refine (TCheck_any w5 t (HTF.out.below B5.out) HTS.out).mono ?_
              rintro e w6 ⟨rfl, b6⟩
              have HB6 := hide (Below.then_ (Below.then_ HBR2.out B5.out) b6)
              obtain ⟨q, hq⟩ : ∃ q, q = checkT t.d := ⟨_, rfl⟩
              rw [← hq]
              clear b6 l5 hld
              by_cases he : q = 0
              · have HNX := hide (show ∀ k, k < j + 1 → ∀ t', b.d.txs[k]? = some t' → checkT t' = 0 from fun k hk t' ht' => by
                  rcases Nat.lt_or_ge k j with h9 | h9
                  · exact HPRE2.out k h9 t' ht'
                  · obtain rfl : k = j := by omega
                    have h8 := HTD.out
                    rw [ht'] at h8
                    injection h8 with h8
                    rw [h8, ← hq, he])
                clear hq
                subst he
                go_wp2_with fail
                exact ⟨⟨j + 1, by omega, by simp, HB6.out, HNX.out⟩, by simp [intOf]; omega⟩
              · have hres := hide (show checkB b.d = q by
                  have h9 : firstErr b.d.txs = q := by rw [hq]; exact firstErr_at _ j t.d HPRE2.out HTD.out (by rw [← hq]; exact he)
                  unfold checkB
                  rw [if_neg HC1.out, if_neg (by rw [HOK.out]; decide), if_pos (by rw [h9]; exact he), h9])
                have hce : (q == 0) = false := by simp [he]
                clear hq
                go_wp2_with fail
                go_ret
                exact ⟨by rw [hres.out]; rfl, Below.then_ hb2.out HB6.out⟩
            · obtain rfl : j = b.n := by omega
              have i1 : ¬ (b.n : Int) < (b.n : Int) := by omega
              have HB4 := hide (HB2.out.under HBR2.out)
              have HF4 := hide (HF2.out.below HBR2.out)
              have hld4 := loadBlk_run wr w.heap.size 0 b HB4.out.whole HF4.out.head
              have HNE := hide (show firstErr b.d.txs = 0 from firstErr_none _ (fun t ht => by obtain ⟨k, hk⟩ := List.getElem?_of_mem ht; exact HPRE2.out k (by have h9 := (List.getElem?_eq_some_iff.1 hk).1; rw [hdl.out] at h9; exact h9) t hk))
              clear hlt hj
              go_wp2_with fail
              refine (BIds_any wr b HF4.out HS.out).mono ?_
              rintro e w5 ⟨A5, c5, rfl, hh5, hc5, hb5, hf5⟩
              have hil := hide (show b.d.ids.length ≤ 1000 by rw [BlkD.ids, List.length_map, hdl.out]; exact HN.out)
              have hfi := hide (show ∀ x ∈ b.d.ids, x.length = 32 ∧ Byt x from fun x hx => by obtain ⟨t, _, rfl⟩ := List.mem_map.1 hx; exact ⟨sha2_len _, sha2_byt _⟩)
              have HB5 := hide (Below.then_ (Below.then_ hb2.out HBR2.out) hb5)
              have HBB5 := hide (HB4.out.under hb5)
              have HH5 := hide hh5
              have HC5 := hide hc5
              clear hb5 hf5 hh5 hc5 hld4
              go_wp2_with fail
              refine (Root_any w5 A5 _ c5 b.d.ids HH5.out hil.out HC5.out).mono ?_
              rintro e w6 ⟨rfl, hb6⟩
              obtain ⟨H, hH⟩ : ∃ H, H = (rootL b.d.ids).1 := ⟨_, rfl⟩
              obtain ⟨s2, hs2⟩ : ∃ s, s = (rootL b.d.ids).2 := ⟨_, rfl⟩
              have HRL := hide (show H.length = 32 by rw [hH]; exact (rootL_len _ hfi.out).1)
              have HFIN := hide (show checkB b.d = if H ≠ b.head.root ∨ s2 = true then 111 else 0 by
                unfold checkB
                rw [if_neg HC1.out, if_neg (by rw [HOK.out]; decide), if_neg (by rw [HNE.out]; simp), hH, hs2]; rfl)
              rw [← hH, ← hs2]
              have HB6 := hide (Below.then_ HB5.out hb6)
              have HBB6 := hide (HBB5.out.under hb6)
              have KZ := hide (Blk.new w6 31 (bcs zero32))
              have hrl := hide HF4.out.head.rlen
              have HHD := hide HF4.out.head
              obtain ⟨R, hR⟩ : ∃ R, R = b.head.root := ⟨_, rfl⟩
              have HRR := hide hR
              have hnq := fun w => neqHash_run H R HRL.out (by rw [hR]; exact hrl.out) w
              obtain ⟨q, hqq⟩ : ∃ q, q = (H == R) := ⟨_, rfl⟩
              rw [← hqq] at hnq
              have HQ := hide hqq
              clear hH hs2 hb6 hqq hR
              cases s2 <;> cases q <;>
              (go_wp2_with (first
                | (refine wpList_alloc_agg rfl 31 rfl (bcs zero32) zeroHash_info ?_; simp only [Act.put, List.setIfInBounds_toArray, List.set_cons_zero, List.set_cons_succ])
                | (refine wpList_store_blk rfl 31 _ _ rfl w6.heap.size 0 31 (bcs zero32) (bcs H) (by rfl) (by rfl) KZ.out (by rw [bcs_length, bcs_length, HRL.out]; decide) (by rw [bcs_length, HRL.out]; exact isHash32) (bcs_one _) ?_; intro w7 o7 z7 b7; rw [lay_all _ _ (by rw [bcs_length, bcs_length, HRL.out]; rfl)] at b7; have l7 := loadHashB_run w7 w6.heap.size 0 H b7.whole HRL.out; have O7 := hide ((Only.alloc0 (F := fun i => i = w6.heap.size) w6 (.cells (bcs zero32).toArray 31)).trans o7 (fun _ _ h => h)); have hlt6 := HBB6.out.lt; have hr7 := loadHashB_run w7 w.heap.size 33 R (by rw [HRR.out]; exact blk_root (O7.out.blk HBB6.out (show ¬ w.heap.size = w6.heap.size by omega)) HHD.out) (by rw [HRR.out]; exact hrl.out); clear o7 z7 b7 hlt6; simp only [Act.put]))
               go_ret
               refine ⟨by rw [HFIN.out, ← HRR.out]; have h9 := HQ.out; simp at h9; simp [h9], O7.out.under HB6.out (fun i hi => ?_)⟩
               have h9 : i = w6.heap.size := hi
               have := HB6.out.size
               omega)

set_option maxHeartbeats 8000000 in
set_option maxRecDepth 100000 in
theorem refBCheck_any (w : World) (b : BlkV) (hf : b.Fine w) (hs : b.Small) :
    Calls Try.prog 37 #[.agg b.cells.toArray] w fun e w' => e = .returned (.int .i64 (checkB b.d)) ∧ Below w.heap.size w w' := by
  have B0 := Blk.new w 40 b.cells
  have hb0 := hide (show Below w.heap.size w (w.alloc (.cells b.cells.toArray 40)) from below_alloc (Below.refl _ _) _)
  have HB0 := hide B0
  have HF := hide (hf.below hb0.out)
  have HS := hide hs
  have HN := hide hs.n
  have hlen := hide hf.txs.1
  have hdl := hide (show b.d.txs.length = b.n by simp [BlkV.d, hf.txs.1])
  have k68 := blk_txs B0 hf.head
  have hld0 := loadBlk_run (w.alloc (.cells b.cells.toArray 40)) w.heap.size 0 b B0.whole hf.head
  clear hf hs B0
  by_cases h1 : b.n = 0
  · have hc1 : ((b.n : Int) == 0) = true := by simp [h1]
    have hres := hide (show checkB b.d = 111 by unfold checkB; rw [if_pos (.inl (by rw [hdl.out]; exact h1))])
    clear h1
    go_enter Try.func37, Try.ntmps37
    go_wp2_with fail
    go_ret
    exact ⟨by rw [hres.out]; rfl, hb0.out⟩
  · have hc1 : ((b.n : Int) == 0) = false := by simp; omega
    have HN0 := hide h1
    clear h1
    go_enter Try.func37, Try.ntmps37
    go_wp2_with fail
    refine (refBBytes_any _ b HF.out HS.out).mono ?_
    rintro e w2 ⟨A2, n2, c2, rfl, t2, f2⟩
    have hl2 := hide (show b.d.bytes.length = n2 from t2.len)
    have HB2 := hide (HB0.out.under t2.below)
    have HF2 := hide (HF.out.below t2.below)
    have hb2 := hide (Below.then_ hb0.out t2.below)
    have k682 := blk_txs HB2.out HF2.out.head
    clear t2 f2 k68 hld0 hc1
    by_cases h2 : 20000 < n2
    · have hc2 : (20000 : Int) < (n2 : Int) := by omega
      have hres := hide (show checkB b.d = 111 by unfold checkB; rw [if_pos (.inr (by rw [hl2.out]; exact h2))])
      clear h2
      go_wp2_with fail
      go_ret
      exact ⟨by rw [hres.out]; rfl, hb2.out⟩
    · have hc2 : ¬ (20000 : Int) < (n2 : Int) := by omega
      have H2 := hide h2
      clear h2
      go_wp2_with fail
      have HC1 := hide (show ¬ (b.d.txs.length = 0 ∨ 20000 < b.d.bytes.length) by rw [hdl.out, hl2.out]; have := HN0.out; have := H2.out; omega)
      have hn9 : (b.n : Int) ≤ 1000 := by have := HN.out; omega
      have hget := hide (fun (j : Nat) (t : TxV) (h : b.txs[j]? = some t) => show b.d.txs[j]? = some t.d by simp [BlkV.d, h])
      clear k682 hc2
      go_loopw [23] (fun i ws => ∃ j : Nat, j ≤ b.n ∧ i = .int .i64 (j : Int) ∧ Below w2.heap.size w2 ws ∧ ∀ k, k < j → ∀ t, b.d.txs[k]? = some t → baseT t.ins = decide (k = 0)) (fun i _ => b.n - (intOf i).toNat)
      case atStart => exact ⟨0, by omega, rfl, Below.refl _ _, fun k hk => by omega⟩
      case round =>
        obtain ⟨j, hj, rfl, hbr, hpre⟩ := hrel
        have HBR := hide hbr
        have HPRE := hide hpre
        clear hbr hpre
        by_cases hlt : j < b.n
        · obtain ⟨t, hta⟩ : ∃ t, b.txs[j]? = some t := ⟨_, List.getElem?_eq_getElem (by have := hlen.out; omega)⟩
          obtain ⟨pb, off, hpa, hrow⟩ := HF2.out.txs.2.2 (by omega)
          have hld := loadTx_run wr pb (off + j * 4) t (range_under (hrow j t hta) HBR.out)
          have HTF := hide ((HF2.out.txs.2.1 t (List.mem_of_getElem? hta)).below HBR.out)
          have HTS := hide (HS.out.txs t (List.mem_of_getElem? hta))
          have HTD := hide (hget.out j t hta)
          have i0 : (0 : Int) ≤ (j : Int) := by omega
          have i1 : (j : Int) < (b.n : Int) := by omega
          clear hrow hta
          rw [hpa]
          by_cases hj0 : j = 0
          · have hcj : ((j : Int) == 0) = true := by simp [hj0]
            have hcg : ¬ (0 : Int) < (j : Int) := by omega
            have HJ0 := hide (show decide (j = 0) = true by simp [hj0])
            clear hj0
            go_wp2_with (first
              | (refine wpList_alloc_agg rfl 37 rfl zeroV.cells zeroTx_info ?_; simp only [Act.put, List.setIfInBounds_toArray, List.set_cons_zero, List.set_cons_succ])
              | (refine tx_store rfl _ _ rfl wr rfl (by rfl) t (by rfl) ?_; intro w5 b5 s5 k5; have l5 := loadTx_run w5 wr.heap.size 0 t k5.whole; have B5 := hide b5; clear b5 s5 k5; simp only [Act.put]))
            refine (refTBase_any w5 t (HTF.out.below B5.out) HTS.out).mono ?_
            rintro e w6 ⟨rfl, b6⟩
            have HB6 := hide (Below.then_ (Below.then_ HBR.out B5.out) b6)
            obtain ⟨q, hq⟩ : ∃ q, q = baseT (t.ins.map InV.d) := ⟨_, rfl⟩
            rw [← hq]
            have HERR := hide (fun (h : q ≠ decide (j = 0)) => show checkB b.d = 111 by unfold checkB; rw [if_neg HC1.out, if_pos (basesOk_not _ j t.d HTD.out (by show baseT (t.ins.map InV.d) ≠ _; rw [← hq]; exact h))])
            have HNX := hide (fun (h : q = decide (j = 0)) => show ∀ k, k < j + 1 → ∀ t', b.d.txs[k]? = some t' → baseT t'.ins = decide (k = 0) from fun k hk t' ht' => by
              rcases Nat.lt_or_ge k j with h9 | h9
              · exact HPRE.out k h9 t' ht'
              · obtain rfl : k = j := by omega
                have h8 := HTD.out
                rw [ht'] at h8
                injection h8 with h8
                rw [h8]
                show baseT (t.ins.map InV.d) = _
                rw [← hq, h])
            clear b6 hq l5 hld
            cases q
            · go_wp2_with fail
              go_ret
              exact ⟨by rw [HERR.out (by rw [HJ0.out]; decide)]; rfl, Below.then_ hb2.out HB6.out⟩
            · go_wp2_with fail
              exact ⟨⟨j + 1, by omega, by simp, HB6.out, HNX.out (by rw [HJ0.out])⟩, by simp [intOf]; omega⟩
          · have hcj : ((j : Int) == 0) = false := by simp; omega
            have hcg : (0 : Int) < (j : Int) := by omega
            have HJ0 := hide (show decide (j = 0) = false by simp [hj0])
            clear hj0
            go_wp2_with (first
              | (refine wpList_alloc_agg rfl 37 rfl zeroV.cells zeroTx_info ?_; simp only [Act.put, List.setIfInBounds_toArray, List.set_cons_zero, List.set_cons_succ])
              | (refine tx_store rfl _ _ rfl wr rfl (by rfl) t (by rfl) ?_; intro w5 b5 s5 k5; have l5 := loadTx_run w5 wr.heap.size 0 t k5.whole; have B5 := hide b5; clear b5 s5 k5; simp only [Act.put]))
            refine (refTBase_any w5 t (HTF.out.below B5.out) HTS.out).mono ?_
            rintro e w6 ⟨rfl, b6⟩
            have HB6 := hide (Below.then_ (Below.then_ HBR.out B5.out) b6)
            obtain ⟨q, hq⟩ : ∃ q, q = baseT (t.ins.map InV.d) := ⟨_, rfl⟩
            rw [← hq]
            have HERR := hide (fun (h : q ≠ decide (j = 0)) => show checkB b.d = 111 by unfold checkB; rw [if_neg HC1.out, if_pos (basesOk_not _ j t.d HTD.out (by show baseT (t.ins.map InV.d) ≠ _; rw [← hq]; exact h))])
            have HNX := hide (fun (h : q = decide (j = 0)) => show ∀ k, k < j + 1 → ∀ t', b.d.txs[k]? = some t' → baseT t'.ins = decide (k = 0) from fun k hk t' ht' => by
              rcases Nat.lt_or_ge k j with h9 | h9
              · exact HPRE.out k h9 t' ht'
              · obtain rfl : k = j := by omega
                have h8 := HTD.out
                rw [ht'] at h8
                injection h8 with h8
                rw [h8]
                show baseT (t.ins.map InV.d) = _
                rw [← hq, h])
            clear b6 hq l5 hld
            cases q
            · go_wp2_with fail
              exact ⟨⟨j + 1, by omega, by simp, HB6.out, HNX.out (by rw [HJ0.out])⟩, by simp [intOf]; omega⟩
            · go_wp2_with fail
              go_ret
              exact ⟨by rw [HERR.out (by rw [HJ0.out]; decide)]; rfl, Below.then_ hb2.out HB6.out⟩
        · obtain rfl : j = b.n := by omega
          have i1 : ¬ (b.n : Int) < (b.n : Int) := by omega
          have k683 := blk_txs (HB2.out.under HBR.out) HF2.out.head
          have HOK := hide (show basesOk b.d.txs = true from (basesOk_iff _ (fun e => by have := hdl.out; rw [e] at this; have := HN0.out; simp at *; omega)).2 (fun k t ht => HPRE.out k (by have h9 := (List.getElem?_eq_some_iff.1 ht).1; rw [hdl.out] at h9; exact h9) t ht))
          clear hlt hj
          go_wp2_with fail
          obtain ⟨w3, hw3⟩ : ∃ x, x = wr := ⟨_, rfl⟩
          rw [← hw3] at HBR k683 ⊢
          clear hw3 k683
          go_loopw [47] (fun i ws => ∃ j : Nat, j ≤ b.n ∧ i = .int .i64 (j : Int) ∧ Below w2.heap.size w2 ws ∧ ∀ k, k < j → ∀ t, b.d.txs[k]? = some t → checkT t = 0) (fun i _ => b.n - (intOf i).toNat)
          case atStart => exact ⟨0, by omega, rfl, HBR.out, fun k hk => by omega⟩
          case round =>
            obtain ⟨j, hj, rfl, hbr, hpre⟩ := hrel
            have HBR2 := hide hbr
            have HPRE2 := hide hpre
            clear hbr hpre
            by_cases hlt : j < b.n
            · obtain ⟨t, hta⟩ : ∃ t, b.txs[j]? = some t := ⟨_, List.getElem?_eq_getElem (by have := hlen.out; omega)⟩
              obtain ⟨pb, off, hpa, hrow⟩ := HF2.out.txs.2.2 (by omega)
              have hld := loadTx_run wr pb (off + j * 4) t (range_under (hrow j t hta) HBR2.out)
              have HTF := hide ((HF2.out.txs.2.1 t (List.mem_of_getElem? hta)).below HBR2.out)
              have HTS := hide (HS.out.txs t (List.mem_of_getElem? hta))
              have HTD := hide (hget.out j t hta)
              have i0 : (0 : Int) ≤ (j : Int) := by omega
              have i1 : (j : Int) < (b.n : Int) := by omega
              clear hrow hta
              rw [hpa]
              go_wp2_with (first
                | (refine wpList_alloc_agg rfl 37 rfl zeroV.cells zeroTx_info ?_; simp only [Act.put, List.setIfInBounds_toArray, List.set_cons_zero, List.set_cons_succ])
                | (refine tx_store rfl _ _ rfl wr rfl (by rfl) t (by rfl) ?_; intro w5 b5 s5 k5; have l5 := loadTx_run w5 wr.heap.size 0 t k5.whole; have B5 := hide b5; clear b5 s5 k5; simp only [Act.put]))
              refine (refTCheck_any w5 t (HTF.out.below B5.out) HTS.out).mono ?_
              rintro e w6 ⟨rfl, b6⟩
              have HB6 := hide (Below.then_ (Below.then_ HBR2.out B5.out) b6)
              obtain ⟨q, hq⟩ : ∃ q, q = checkT t.d := ⟨_, rfl⟩
              rw [← hq]
              clear b6 l5 hld
              by_cases he : q = 0
              · have HNX := hide (show ∀ k, k < j + 1 → ∀ t', b.d.txs[k]? = some t' → checkT t' = 0 from fun k hk t' ht' => by
                  rcases Nat.lt_or_ge k j with h9 | h9
                  · exact HPRE2.out k h9 t' ht'
                  · obtain rfl : k = j := by omega
                    have h8 := HTD.out
                    rw [ht'] at h8
                    injection h8 with h8
                    rw [h8, ← hq, he])
                clear hq
                subst he
                go_wp2_with fail
                exact ⟨⟨j + 1, by omega, by simp, HB6.out, HNX.out⟩, by simp [intOf]; omega⟩
              · have hres := hide (show checkB b.d = q by
                  have h9 : firstErr b.d.txs = q := by rw [hq]; exact firstErr_at _ j t.d HPRE2.out HTD.out (by rw [← hq]; exact he)
                  unfold checkB
                  rw [if_neg HC1.out, if_neg (by rw [HOK.out]; decide), if_pos (by rw [h9]; exact he), h9])
                have hce : (q == 0) = false := by simp [he]
                clear hq
                go_wp2_with fail
                go_ret
                exact ⟨by rw [hres.out]; rfl, Below.then_ hb2.out HB6.out⟩
            · obtain rfl : j = b.n := by omega
              have i1 : ¬ (b.n : Int) < (b.n : Int) := by omega
              have HB4 := hide (HB2.out.under HBR2.out)
              have HF4 := hide (HF2.out.below HBR2.out)
              have hld4 := loadBlk_run wr w.heap.size 0 b HB4.out.whole HF4.out.head
              have HNE := hide (show firstErr b.d.txs = 0 from firstErr_none _ (fun t ht => by obtain ⟨k, hk⟩ := List.getElem?_of_mem ht; exact HPRE2.out k (by have h9 := (List.getElem?_eq_some_iff.1 hk).1; rw [hdl.out] at h9; exact h9) t hk))
              clear hlt hj
              go_wp2_with fail
              refine (refBIds_any wr b HF4.out HS.out).mono ?_
              rintro e w5 ⟨A5, c5, rfl, hh5, hc5, hb5, hf5⟩
              have hil := hide (show b.d.ids.length ≤ 1000 by rw [BlkD.ids, List.length_map, hdl.out]; exact HN.out)
              have hfi := hide (show ∀ x ∈ b.d.ids, x.length = 32 ∧ Byt x from fun x hx => by obtain ⟨t, _, rfl⟩ := List.mem_map.1 hx; exact ⟨sha2_len _, sha2_byt _⟩)
              have HB5 := hide (Below.then_ (Below.then_ hb2.out HBR2.out) hb5)
              have HBB5 := hide (HB4.out.under hb5)
              have HH5 := hide hh5
              have HC5 := hide hc5
              clear hb5 hf5 hh5 hc5 hld4
              go_wp2_with fail
              refine (refRoot_any (b.d.ids.length + 1) w5 A5 _ c5 b.d.ids (Nat.lt_succ_self _) HH5.out hil.out).mono ?_
              rintro e w6 ⟨rfl, hb6⟩
              obtain ⟨H, hH⟩ : ∃ H, H = (rootL b.d.ids).1 := ⟨_, rfl⟩
              obtain ⟨s2, hs2⟩ : ∃ s, s = (rootL b.d.ids).2 := ⟨_, rfl⟩
              have HRL := hide (show H.length = 32 by rw [hH]; exact (rootL_len _ hfi.out).1)
              have HFIN := hide (show checkB b.d = if H ≠ b.head.root ∨ s2 = true then 111 else 0 by
                unfold checkB
                rw [if_neg HC1.out, if_neg (by rw [HOK.out]; decide), if_neg (by rw [HNE.out]; simp), hH, hs2]; rfl)
              rw [← hH, ← hs2]
              have HB6 := hide (Below.then_ HB5.out hb6)
              have HBB6 := hide (HBB5.out.under hb6)
              have KZ := hide (Blk.new w6 31 (bcs zero32))
              have hrl := hide HF4.out.head.rlen
              have HHD := hide HF4.out.head
              obtain ⟨R, hR⟩ : ∃ R, R = b.head.root := ⟨_, rfl⟩
              have HRR := hide hR
              have hnq := fun w => neqHash_run H R HRL.out (by rw [hR]; exact hrl.out) w
              obtain ⟨q, hqq⟩ : ∃ q, q = (H == R) := ⟨_, rfl⟩
              rw [← hqq] at hnq
              have HQ := hide hqq
              clear hH hs2 hb6 hqq hR
              cases s2 <;> cases q <;>
              (go_wp2_with (first
                | (refine wpList_alloc_agg rfl 31 rfl (bcs zero32) zeroHash_info ?_; simp only [Act.put, List.setIfInBounds_toArray, List.set_cons_zero, List.set_cons_succ])
                | (refine wpList_store_blk rfl 31 _ _ rfl w6.heap.size 0 31 (bcs zero32) (bcs H) (by rfl) (by rfl) KZ.out (by rw [bcs_length, bcs_length, HRL.out]; decide) (by rw [bcs_length, HRL.out]; exact isHash32) (bcs_one _) ?_; intro w7 o7 z7 b7; rw [lay_all _ _ (by rw [bcs_length, bcs_length, HRL.out]; rfl)] at b7; have l7 := loadHashB_run w7 w6.heap.size 0 H b7.whole HRL.out; have O7 := hide ((Only.alloc0 (F := fun i => i = w6.heap.size) w6 (.cells (bcs zero32).toArray 31)).trans o7 (fun _ _ h => h)); have hlt6 := HBB6.out.lt; have hr7 := loadHashB_run w7 w.heap.size 33 R (by rw [HRR.out]; exact blk_root (O7.out.blk HBB6.out (show ¬ w.heap.size = w6.heap.size by omega)) HHD.out) (by rw [HRR.out]; exact hrl.out); clear o7 z7 b7 hlt6; simp only [Act.put]))
               go_ret
               refine ⟨by rw [HFIN.out, ← HRR.out]; have h9 := HQ.out; simp at h9; simp [h9], O7.out.under HB6.out (fun i hi => ?_)⟩
               have h9 : i = w6.heap.size := hi
               have := HB6.out.size
               omega)

end Go.Proofs.Ytbpmcnfmgaolnaa
/-
  The chapter's example: a block with one transaction, as it is made.
-/
namespace Go.Proofs.Ytbpmcnfmgaolnaa
open Go.RowKit

def plainO : OutV := ⟨5, none, 0, 0, []⟩
def plainT (gl gi go : Nat) : TxV := ⟨0, some ⟨gi, 0, none⟩, 1, 1, [baseI gl], some ⟨go, 0, none⟩, 1, 1, [plainO], 0⟩
def plainTD : TxD := ⟨0, [⟨nullR, [1, 2], 0⟩], [⟨5, []⟩], 0⟩
def plainH (H : List Int) : HeadD := ⟨0, zero32, H, 7, 0, 0⟩
def plainD (H : List Int) : BlkD := ⟨plainH H, [plainTD]⟩
def plainB (H : List Int) (gl gi go gt : Nat) : BlkV := ⟨plainH H, some ⟨gt, 0, none⟩, 1, 1, [plainT gl gi go]⟩
theorem plainB_d (H : List Int) (gl gi go gt : Nat) : (plainB H gl gi go gt).d = plainD H := rfl
theorem plainT_d (gl gi go : Nat) : (plainT gl gi go).d = plainTD := rfl
theorem plainT_small (gl gi go : Nat) : (plainT gl gi go).Small := ⟨by simp [plainT], by simp [plainT], by simp [plainT, baseI], by simp [plainT, plainO]⟩
theorem plainB_small (H : List Int) (gl gi go gt : Nat) : (plainB H gl gi go gt).Small := ⟨by simp [plainB], fun t ht => by
  obtain rfl : t = plainT gl gi go := by simpa [plainB] using ht
  exact plainT_small gl gi go⟩
/-- The transaction, laid out in blocks of its own. -/
structure PTxAt (w : World) (gl gi go : Nat) : Prop where
  l : Blk w gl 5 (bcs [1, 2])
  i : Blk w gi 60 (baseI gl).cells
  o : Blk w go 62 plainO.cells
theorem PTxAt.fine {w : World} {gl gi go : Nat} (h : PTxAt w gl gi go) : (plainT gl gi go).Fine w := by
  refine ⟨(by decide : (0 : Int) ≤ 0 ∧ (0 : Int) ≤ 4294967295), (by decide : (0 : Int) ≤ 0 ∧ (0 : Int) ≤ 4294967295), ⟨rfl, fun a ha => ?_, fun _ => ⟨gi, 0, rfl, fun j a ha => ?_⟩⟩, ⟨rfl, fun a ha => ?_, fun _ => ⟨go, 0, rfl, fun j a ha => ?_⟩⟩, Nat.le_refl _, Nat.le_refl _⟩
  · obtain rfl : a = baseI gl := by simpa [plainT] using ha
    exact ⟨nullR_fine, Bys.of_blk h.l byt12, Nat.le_refl _, (by decide : (0 : Int) ≤ 0 ∧ (0 : Int) ≤ 4294967295)⟩
  · rcases j with _ | j
    · obtain rfl : baseI gl = a := by simpa [plainT] using ha
      simpa using h.i.whole
    · simp [plainT] at ha
  · obtain rfl : a = plainO := by simpa [plainT] using ha
    exact ⟨(by decide : (-9223372036854775808 : Int) ≤ 5 ∧ (5 : Int) ≤ 9223372036854775807), Bys.nil _ _, Nat.le_refl _⟩
  · rcases j with _ | j
    · obtain rfl : plainO = a := by simpa [plainT] using ha
      simpa using h.o.whole
    · simp [plainT] at ha
theorem PTxAt.under {w w' : World} {gl gi go : Nat} (h : PTxAt w gl gi go) (hb : Below w.heap.size w w') : PTxAt w' gl gi go := ⟨h.l.under hb, h.i.under hb, h.o.under hb⟩
structure PlainAt (w0 w : World) (gl gi go gt : Nat) : Prop where
  below : Below w0.heap.size w0 w
  tx : PTxAt w gl gi go
  t : Blk w gt 37 (plainT gl gi go).cells
  s1 : w0.heap.size < gl
  s2 : w0.heap.size < gi
  s3 : w0.heap.size < go
  s4 : w0.heap.size < gt
theorem PlainAt.under {w0 w w' : World} {gl gi go gt : Nat} (h : PlainAt w0 w gl gi go gt) (hb : Below w.heap.size w w') : PlainAt w0 w' gl gi go gt :=
  ⟨Below.then_ h.below hb, h.tx.under hb, h.t.under hb, h.s1, h.s2, h.s3, h.s4⟩
theorem plainH_fine (H : List Int) (h : H.length = 32 ∧ Byt H) : (plainH H).Fine := ⟨(by decide : (0 : Int) ≤ 0 ∧ (0 : Int) ≤ 4294967295), rfl, zeroH_fine.pbyt, h.1, h.2, (by decide : (0 : Int) ≤ 7 ∧ (7 : Int) ≤ 4294967295), (by decide : (0 : Int) ≤ 0 ∧ (0 : Int) ≤ 4294967295), (by decide : (0 : Int) ≤ 0 ∧ (0 : Int) ≤ 4294967295)⟩
theorem PlainAt.fine {w0 w : World} {H : List Int} {gl gi go gt : Nat} (h : PlainAt w0 w gl gi go gt) (hh : H.length = 32 ∧ Byt H) : (plainB H gl gi go gt).Fine w := by
  refine ⟨plainH_fine H hh, ⟨rfl, fun a ha => ?_, fun _ => ⟨gt, 0, rfl, fun j a ha => ?_⟩⟩, Nat.le_refl _⟩
  · obtain rfl : a = plainT gl gi go := by simpa [plainB] using ha
    exact h.tx.fine
  · rcases j with _ | j
    · obtain rfl : plainT gl gi go = a := by simpa [plainB] using ha
      simpa using h.t.whole
    · simp [plainB] at ha
def plainRoot : List Int := [199, 220, 70, 224, 43, 188, 23, 139, 251, 104, 248, 93, 151, 93, 92, 91, 41, 159, 118, 70, 137, 17, 198, 173, 225, 47, 190, 109, 95, 218, 148, 59]
set_option maxRecDepth 100000 in
theorem plain_sha : sha2 plainTD.bytes = plainRoot := by kernel_rfl
theorem plain_head (w : World) : (mkHead #[(2, .agg (bcs plainRoot).toArray), (3, .int .u32 7)]).run Try.prog w = .ok (.agg (plainH plainRoot).cells.toArray) w := by kernel_rfl
theorem plain_blk (A : Option Addr) (n c : Nat) (w : World) : (mkBlk #[(0, .agg (plainH plainRoot).cells.toArray), (1, .slice A n c)]).run Try.prog w = .ok (.agg ((plainH plainRoot).cells ++ [Value.slice A n c]).toArray) w := by kernel_rfl
theorem mkTx_plain (A B : Option Addr) (n c m d : Nat) (w : World) : (mkTx #[(1, .slice A n c), (2, .slice B m d)]).run Try.prog w = .ok (.agg #[.int .u32 0, .slice A n c, .slice B m d, .int .u32 0]) w := by kernel_rfl
/-- The root, behind a letter. -/
structure PlainRoot (H : List Int) : Prop where
  len : H.length = 32 ∧ Byt H
  sha : sha2 plainTD.bytes = H
  head : ∀ w : World, (mkHead #[(2, .agg (bcs H).toArray), (3, .int .u32 7)]).run Try.prog w = .ok (.agg (plainH H).cells.toArray) w
  blk : ∀ (A : Option Addr) (n c : Nat) (w : World), (mkBlk #[(0, .agg (plainH H).cells.toArray), (1, .slice A n c)]).run Try.prog w = .ok (.agg ((plainH H).cells ++ [Value.slice A n c]).toArray) w
  fromLit : H = plainRoot
theorem plainRoot_is : PlainRoot plainRoot := ⟨⟨rfl, by rw [← plain_sha]; exact sha2_byt _⟩, plain_sha, plain_head, plain_blk, rfl⟩
attribute [local go_sem ↓] loadIn_fold loadRef_fold loadTx_fold eqlRef_fold neqRef_fold mkRef_fold mkIn_fold mkIns_fold mkTx_fold mkTxs_fold mkHead_fold mkBlk_fold
attribute [local go_sem] mkRef_null
set_option maxHeartbeats 4000000 in
set_option maxRecDepth 100000 in
theorem plain_any (H : List Int) (hH : Hid (PlainRoot H)) (w : World) : Calls Try.prog 42 #[] w fun e w' => ∃ gl gi go gt, e = .returned (.agg (plainB H gl gi go gt).cells.toArray) ∧ PlainAt w w' gl gi go gt := by
  have hmi := fun (A : Option Addr) (w : World) => mkIn_null A 2 2 [1, 2] w
  have hms := fun (w1 : World) => mkIns_run w1 (⟨nullR, some ⟨w.heap.size + 1, 0, none⟩, 2, 2, [1, 2], 0⟩ : InV) nullR_fine
  have hmt := fun (w1 : World) => mkTx_plain (some ⟨w.heap.size + 1 + 1, 0, none⟩) (some ⟨w.heap.size + 1 + 1 + 1, 0, none⟩) 1 1 1 1 w1
  go_enter Try.func42, Try.ntmps42
  go_wp2_with (first
    | (refine wpList_alloc_agg rfl 40 rfl zeroB.cells zeroBlk_info ?_; simp only [Act.put, List.setIfInBounds_toArray, List.set_cons_zero])
    | fail)
  have hB := ((((blk_at w 40 zeroB.cells w.heap.size rfl).alloc (.cells (bcs [1, 2]).toArray 5)).alloc (.cells (baseI (w.heap.size + 1)).cells.toArray 60)).alloc (.cells plainO.cells.toArray 62)).alloc (.cells (plainT (w.heap.size + 1) (w.heap.size + 1 + 1) (w.heap.size + 1 + 1 + 1)).cells.toArray 37)
  have hP : PTxAt ((((((w.alloc (.cells zeroB.cells.toArray 40)).alloc (.cells (bcs [1, 2]).toArray 5)).alloc (.cells (baseI (w.heap.size + 1)).cells.toArray 60)).alloc (.cells plainO.cells.toArray 62)).alloc (.cells (plainT (w.heap.size + 1) (w.heap.size + 1 + 1) (w.heap.size + 1 + 1 + 1)).cells.toArray 37))) (w.heap.size + 1) (w.heap.size + 1 + 1) (w.heap.size + 1 + 1 + 1) := ⟨(((blk_at _ 5 (bcs [1, 2]) (w.heap.size + 1) (by simp)).alloc _).alloc _).alloc _, ((blk_at _ 60 (baseI (w.heap.size + 1)).cells (w.heap.size + 1 + 1) (by simp)).alloc _).alloc _, (blk_at _ 62 plainO.cells (w.heap.size + 1 + 1 + 1) (by simp)).alloc _⟩
  have b5 : Blk ((((((w.alloc (.cells zeroB.cells.toArray 40)).alloc (.cells (bcs [1, 2]).toArray 5)).alloc (.cells (baseI (w.heap.size + 1)).cells.toArray 60)).alloc (.cells plainO.cells.toArray 62)).alloc (.cells (plainT (w.heap.size + 1) (w.heap.size + 1 + 1) (w.heap.size + 1 + 1 + 1)).cells.toArray 37))) (w.heap.size + 1 + 1 + 1 + 1) 37 (plainT (w.heap.size + 1) (w.heap.size + 1 + 1) (w.heap.size + 1 + 1 + 1)).cells := blk_at _ 37 _ _ (by simp)
  have hb := below_alloc (below_alloc (below_alloc (below_alloc (below_alloc (Below.refl _ w) (.cells zeroB.cells.toArray 40)) (.cells (bcs [1, 2]).toArray 5)) (.cells (baseI (w.heap.size + 1)).cells.toArray 60)) (.cells plainO.cells.toArray 62)) (.cells (plainT (w.heap.size + 1) (w.heap.size + 1 + 1) (w.heap.size + 1 + 1 + 1)).cells.toArray 37)
  show Code.wp _ _ _ _ ((((((w.alloc (.cells zeroB.cells.toArray 40)).alloc (.cells (bcs [1, 2]).toArray 5)).alloc (.cells (baseI (w.heap.size + 1)).cells.toArray 60)).alloc (.cells plainO.cells.toArray 62)).alloc (.cells (plainT (w.heap.size + 1) (w.heap.size + 1 + 1) (w.heap.size + 1 + 1 + 1)).cells.toArray 37)))
  obtain ⟨w5, hw5⟩ : ∃ x, x = (((((w.alloc (.cells zeroB.cells.toArray 40)).alloc (.cells (bcs [1, 2]).toArray 5)).alloc (.cells (baseI (w.heap.size + 1)).cells.toArray 60)).alloc (.cells plainO.cells.toArray 62)).alloc (.cells (plainT (w.heap.size + 1) (w.heap.size + 1 + 1) (w.heap.size + 1 + 1 + 1)).cells.toArray 37)) := ⟨_, rfl⟩
  rw [← hw5] at hB hP b5 hb ⊢
  replace hB := hide hB
  replace hb := hide hb
  clear hw5 hmi hms hmt
  obtain ⟨gl, hgl⟩ : ∃ x, x = w.heap.size + 1 := ⟨_, rfl⟩
  rw [← hgl] at hP b5 ⊢
  obtain ⟨gi, hgi⟩ : ∃ x, x = gl + 1 := ⟨_, rfl⟩
  rw [← hgi] at hP b5 ⊢
  obtain ⟨go, hgo⟩ : ∃ x, x = gi + 1 := ⟨_, rfl⟩
  rw [← hgo] at hP b5 ⊢
  obtain ⟨gt, hgt⟩ : ∃ x, x = go + 1 := ⟨_, rfl⟩
  rw [← hgt] at b5 ⊢
  have HG := hide (show w.heap.size < gl ∧ w.heap.size < gi ∧ w.heap.size < go ∧ w.heap.size < gt by omega)
  have K5 := hide b5
  have HP := hide hP
  have hmh := hH.out.head
  have hmb := hH.out.blk
  have FT := hide (show sha2 (plainT gl gi go).d.bytes = H by rw [plainT_d]; exact hH.out.sha)
  clear b5 hP hgl hgi hgo hgt
  refine wp_region_held_drew (S := fun w' => Blk w' gt 37 (plainT gl gi go).cells) (by kernel_rfl) (K5.out.under (Below.refl _ w5).drew) (fun hSA0 => ?_)
  obtain ⟨w5d, hwA⟩ : ∃ x, x = w5.drew := ⟨_, rfl⟩
  have Bw5d := hide (show Below w5.heap.size w5 w5d by rw [hwA]; exact (Below.refl _ _).drew)
  rw [← hwA] at hSA0 ⊢
  clear hwA
  (refine wpAnyH_take (i := 0) (oi := ⟨some 9, .load 37 (.tmp 1), 37, "law.go:14", #[], none⟩) (v := ?_) rfl (by kernel_rfl) (by kernel_rfl) (by kernel_rfl) (fun _ _ _ h => h) (Or.inl ⟨by rfl, fun w' hSw => ?_⟩) hSA0 ?_; rotate_left; focus (have lt := loadTx_run w' gt 0 (plainT gl gi go) hSw.whole; go_simp; try with_reducible rfl))
  simp only [Act.put, List.setIfInBounds_toArray, List.set_cons_zero, List.set_cons_succ]
  (refine wpAnyH_take (i := 3) (oi := ⟨some 12, .load 37 (.tmp 1), 37, "law.go:14", #[], none⟩) (v := ?_) rfl (by kernel_rfl) (by kernel_rfl) (by kernel_rfl) (fun _ _ _ h => h) (Or.inl ⟨by rfl, fun w' hSw => ?_⟩) hSA0 ?_; rotate_left; focus (have lt := loadTx_run w' gt 0 (plainT gl gi go) hSw.whole; go_simp; try with_reducible rfl))
  simp only [Act.put, List.setIfInBounds_toArray, List.set_cons_zero, List.set_cons_succ]
  refine wpAnyH_ready (rs := [1, 4]) (by kernel_rfl) (by simp) ?_
  refine AllReadyH.cons rfl (fun K hK => ?_) (AllReadyH.cons rfl (fun K hK => ?_) AllReadyH.nil)
  · go_simp
    go_wp2_with (go_at_call 60; refine (refTId_any w5d (plainT gl gi go) (HP.out.under Bw5d.out).fine (plainT_small _ _ _)).mono ?_; rintro e w5dc ⟨rfl, b9⟩)
    rw [FT.out]
    have Bw5dc := hide (Below.then_ Bw5d.out b9)
    have Sw5dc := hide (Blk.under hSA0 b9)
    clear b9
    refine hK.out _ _ (Sw5dc.out) (fun hSA1 => ?_)
    clear hK K
    (refine wpAnyH_take (i := 2) (oi := ⟨some 11, .build 33 #[(2, .tmp 10), (3, .const (.int .u32 7))], 33, "law.go:14", #[⟨1, .data⟩], none⟩) (v := ?_) rfl (by kernel_rfl) (by kernel_rfl) (by kernel_rfl) (fun _ _ _ h => h) (Or.inl ⟨by rfl, fun w' hSw => ?_⟩) hSA1 ?_; rotate_left; focus (go_simp; try with_reducible rfl))
    simp only [Act.put, List.setIfInBounds_toArray, List.set_cons_zero, List.set_cons_succ]
    refine wpAnyH_ready (rs := [4]) (by kernel_rfl) (by simp) ?_
    refine AllReadyH.cons rfl (fun K hK => ?_) AllReadyH.nil
    have hmr := mkTxs_run w5dc (plainT gl gi go)
    go_simp
    clear hmr
    have Nw5dcr := hide (Blk.new w5dc 37 (plainT gl gi go).cells)
    have Bw5dcr := hide (below_alloc Bw5dc.out (.cells (plainT gl gi go).cells.toArray 37))
    have Sw5dcr := hide (Blk.alloc hSA1 (.cells (plainT gl gi go).cells.toArray 37))
    have Gw5dcr := hide (Bw5dc.out.size)
    obtain ⟨gr, hgr⟩ : ∃ x, x = w5dc.heap.size := ⟨_, rfl⟩
    obtain ⟨w5dcr, hv⟩ : ∃ x, x = w5dc.alloc (.cells (plainT gl gi go).cells.toArray 37) := ⟨_, rfl⟩
    rw [← hgr, ← hv] at Nw5dcr
    rw [← hv] at Bw5dcr Sw5dcr ⊢
    rw [← hgr]
    have HGR := hide (show w5.heap.size ≤ gr by rw [hgr]; exact Bw5dc.out.size)
    clear hv hgr
    refine hK.out _ _ (Sw5dcr.out) (fun hSA2 => ?_)
    clear hK K
    (refine wpAnyH_take (i := 5) (oi := ⟨some 14, .build 40 #[(0, .tmp 11), (1, .tmp 13)], 40, "law.go:14", #[⟨2, .data⟩, ⟨4, .data⟩], none⟩) (v := ?_) rfl (by kernel_rfl) (by kernel_rfl) (by kernel_rfl) (fun _ _ _ h => h) (Or.inl ⟨by rfl, fun w' hSw => ?_⟩) hSA2 ?_; rotate_left; focus (go_simp; try with_reducible rfl))
    simp only [Act.put, List.setIfInBounds_toArray, List.set_cons_zero, List.set_cons_succ]
    refine wpAnyH_ready (rs := [6]) (by kernel_rfl) (by simp) ?_
    refine AllReadyH.cons rfl (fun K hK => ?_) AllReadyH.nil
    refine step_store_bk rfl _ _ rfl w.heap.size zeroB (plainB H gl gi go gr) zeroH_fine (plainH_fine H hH.out.len) (by rfl) (by rfl) (hB.out.under Bw5dcr.out) ?_
    intro w9 o9 z9 k9
    have hS9 := o9.blk hSA2 (fun e => by have h9 : gt = w.heap.size := e; have := HG.out; omega)
    refine hK.out _ _ (hS9) (fun hSA3 => ?_)
    clear hK K
    refine wpAnyH_done (by kernel_rfl) ?_ _
    go_wp2_with fail
    refine bodyPost_ret (results_cell_blk rfl _ _ w.heap.size 40 _ _ (by rfl) k9 Try.underlying40 rfl (by rw [BlkV.cells_len (plainH_fine H hH.out.len)]; exact isBlk)) rfl ?_
    have hfar : ∀ k, w.heap.size < k → ¬ k = w.heap.size := fun k h e => by omega
    have h1 := HG.out.1
    have h2 := HG.out.2.1
    have h3 := HG.out.2.2.1
    have h5 := HGR.out
    have h6 := hb.out.size
    have h7 := HG.out.2.2.2
    have h8 := K5.out.lt
    have hq := HP.out.under Bw5dcr.out
    refine ⟨gl, gi, go, gr, rfl, o9.under (Below.then_ hb.out Bw5dcr.out) (fun i hi => by have h9 : i = w.heap.size := hi; omega), ⟨o9.blk hq.l (hfar _ h1), o9.blk hq.i (hfar _ h2), o9.blk hq.o (hfar _ h3)⟩, o9.blk Nw5dcr.out (hfar _ (by omega)), h1, h2, h3, by omega⟩
  · have hmr := mkTxs_run w5d (plainT gl gi go)
    go_simp
    clear hmr
    have Nw5dr := hide (Blk.new w5d 37 (plainT gl gi go).cells)
    have Bw5dr := hide (below_alloc Bw5d.out (.cells (plainT gl gi go).cells.toArray 37))
    have Sw5dr := hide (Blk.alloc hSA0 (.cells (plainT gl gi go).cells.toArray 37))
    have Gw5dr := hide (Bw5d.out.size)
    obtain ⟨gr, hgr⟩ : ∃ x, x = w5d.heap.size := ⟨_, rfl⟩
    obtain ⟨w5dr, hv⟩ : ∃ x, x = w5d.alloc (.cells (plainT gl gi go).cells.toArray 37) := ⟨_, rfl⟩
    rw [← hgr, ← hv] at Nw5dr
    rw [← hv] at Bw5dr Sw5dr ⊢
    rw [← hgr]
    have HGR := hide (show w5.heap.size ≤ gr by rw [hgr]; exact Bw5d.out.size)
    clear hv hgr
    refine hK.out _ _ (Sw5dr.out) (fun hSA1 => ?_)
    clear hK K
    refine wpAnyH_ready (rs := [1]) (by kernel_rfl) (by simp) ?_
    refine AllReadyH.cons rfl (fun K hK => ?_) AllReadyH.nil
    go_simp
    go_wp2_with (go_at_call 60; refine (refTId_any w5dr (plainT gl gi go) (HP.out.under Bw5dr.out).fine (plainT_small _ _ _)).mono ?_; rintro e w5drc ⟨rfl, b9⟩)
    rw [FT.out]
    have BXw5drc := hide b9
    have Bw5drc := hide (Below.then_ Bw5dr.out b9)
    have Sw5drc := hide (Blk.under hSA1 b9)
    clear b9
    refine hK.out _ _ (Sw5drc.out) (fun hSA2 => ?_)
    clear hK K
    (refine wpAnyH_take (i := 2) (oi := ⟨some 11, .build 33 #[(2, .tmp 10), (3, .const (.int .u32 7))], 33, "law.go:14", #[⟨1, .data⟩], none⟩) (v := ?_) rfl (by kernel_rfl) (by kernel_rfl) (by kernel_rfl) (fun _ _ _ h => h) (Or.inl ⟨by rfl, fun w' hSw => ?_⟩) hSA2 ?_; rotate_left; focus (go_simp; try with_reducible rfl))
    simp only [Act.put, List.setIfInBounds_toArray, List.set_cons_zero, List.set_cons_succ]
    (refine wpAnyH_take (i := 5) (oi := ⟨some 14, .build 40 #[(0, .tmp 11), (1, .tmp 13)], 40, "law.go:14", #[⟨2, .data⟩, ⟨4, .data⟩], none⟩) (v := ?_) rfl (by kernel_rfl) (by kernel_rfl) (by kernel_rfl) (fun _ _ _ h => h) (Or.inl ⟨by rfl, fun w' hSw => ?_⟩) hSA2 ?_; rotate_left; focus (go_simp; try with_reducible rfl))
    simp only [Act.put, List.setIfInBounds_toArray, List.set_cons_zero, List.set_cons_succ]
    refine wpAnyH_ready (rs := [6]) (by kernel_rfl) (by simp) ?_
    refine AllReadyH.cons rfl (fun K hK => ?_) AllReadyH.nil
    refine step_store_bk rfl _ _ rfl w.heap.size zeroB (plainB H gl gi go gr) zeroH_fine (plainH_fine H hH.out.len) (by rfl) (by rfl) (hB.out.under Bw5drc.out) ?_
    intro w9 o9 z9 k9
    have hS9 := o9.blk hSA2 (fun e => by have h9 : gt = w.heap.size := e; have := HG.out; omega)
    refine hK.out _ _ (hS9) (fun hSA3 => ?_)
    clear hK K
    refine wpAnyH_done (by kernel_rfl) ?_ _
    go_wp2_with fail
    refine bodyPost_ret (results_cell_blk rfl _ _ w.heap.size 40 _ _ (by rfl) k9 Try.underlying40 rfl (by rw [BlkV.cells_len (plainH_fine H hH.out.len)]; exact isBlk)) rfl ?_
    have hfar : ∀ k, w.heap.size < k → ¬ k = w.heap.size := fun k h e => by omega
    have h1 := HG.out.1
    have h2 := HG.out.2.1
    have h3 := HG.out.2.2.1
    have h5 := HGR.out
    have h6 := hb.out.size
    have h7 := HG.out.2.2.2
    have h8 := K5.out.lt
    have hq := HP.out.under Bw5drc.out
    refine ⟨gl, gi, go, gr, rfl, o9.under (Below.then_ hb.out Bw5drc.out) (fun i hi => by have h9 : i = w.heap.size := hi; omega), ⟨o9.blk hq.l (hfar _ h1), o9.blk hq.i (hfar _ h2), o9.blk hq.o (hfar _ h3)⟩, o9.blk (Nw5dr.out.under (show Below w5dr.heap.size w5dr w5drc from by first | exact BXw5drc.out)) (hfar _ (by omega)), h1, h2, h3, by omega⟩
end Go.Proofs.Ytbpmcnfmgaolnaa
/-
  The chapter's example: a block as bytes, and back.
-/
namespace Go.Proofs.Ytbpmcnfmgaolnaa
open Go.RowKit

set_option maxRecDepth 100000 in
theorem plain_parse : parseB (plainD plainRoot).bytes = (plainD plainRoot, 0) := by kernel_rfl
theorem plain_same : (plainD plainRoot).same (plainD plainRoot) = true := by kernel_rfl
set_option maxRecDepth 100000 in
theorem plain_check : checkB (plainD plainRoot) = 0 := by decide +kernel
theorem plain_len : (plainD plainRoot).bytes.length = 143 := by decide +kernel
set_option maxRecDepth 100000 in
theorem plain_id : sha2 (plainD plainRoot).head.bytes = [9, 68, 31, 109, 169, 203, 96, 157, 104, 111, 225, 66, 118, 10, 204, 245, 31, 217, 145, 40, 135, 31, 238, 19, 240, 76, 40, 13, 255, 50, 14, 78] := by kernel_rfl
theorem neqHash_plain (w : World) : (neqHash (.agg (bcs (sha2 (plainD plainRoot).head.bytes)).toArray) (.agg (bcs zero32).toArray)).run Try.prog w = .ok (.bool true) w := by
  rw [neqHash_run _ _ (sha2_len _) rfl, plain_id]
  rfl
/-- The example's data behind a letter: nobody evaluates it by chance. -/
theorem plain_facts : ∃ (H : List Int) (D : BlkD) (L : List Int), Hid (PlainRoot H) ∧ (∀ gl gi go gt, (plainB H gl gi go gt).d = D) ∧ parseB D.bytes = (D, 0) ∧ D.same D = true ∧ checkB D = 0 ∧ D.bytes.length = 143 ∧
    (∀ w, (neqHash (.agg (bcs L).toArray) (.agg (bcs zero32).toArray)).run Try.prog w = .ok (.bool true) w) ∧ sha2 D.head.bytes = L :=
  ⟨plainRoot, plainD plainRoot, sha2 (plainD plainRoot).head.bytes, hide plainRoot_is, plainB_d plainRoot, plain_parse, plain_same, plain_check, plain_len, neqHash_plain, rfl⟩
attribute [local go_sem ↓] loadHead_fold loadBlk_fold eqlHash_fold neqHash_fold mkHash_fold mkBlk_fold
attribute [local go_sem] mkHash_zero mkBlk_zero guardHash
theorem blk_store {w : World} {ops : Array Oper} {rest : List Oper} {op : Oper} {a : Act} {Q : Exit → Act → World → Prop} (hgd : op.guard = none) (x y : Operand) (ho : op.op = .store 40 x y)
    (g : Nat) (c d : BlkV) (hc : c.head.Fine) (hd : d.head.Fine) (hx : a.eval x = .pointer (some ⟨g, 0, none⟩)) (hy : a.eval y = .agg d.cells.toArray) (hb : Blk w g 40 c.cells)
    (h : ∀ w', Only (fun i => i = g) w w' → Blk w' g 40 d.cells → wpList Try.prog ops Q rest (a.put op.dst undef) w') : wpList Try.prog ops Q (op :: rest) a w := by
  refine wpList_store_blk hgd 40 x y ho g 0 40 c.cells d.cells hx hy hb (by rw [BlkV.cells_len hc, BlkV.cells_len hd]; exact Nat.le_refl _) (by rw [BlkV.cells_len hd]; exact isBlk) (BlkV.one d) ?_
  intro w' o z b
  rw [lay_all _ _ (by rw [BlkV.cells_len hc, BlkV.cells_len hd])] at b
  exact h w' o b
set_option maxHeartbeats 8000000 in
set_option maxRecDepth 100000 in
theorem blockAlive_any (w : World) : Calls Try.prog 28 #[] w fun e w' => e = .returned (.bool true) ∧ Below w.heap.size w w' := by
  obtain ⟨H, D, L, hP, fd, fp, fs, fc, fl, fz, fx⟩ := plain_facts
  have FD := hide fd
  have FP := hide fp
  have FS := hide fs
  have FC := hide fc
  have FL := hide fl
  have FZ := hide fz
  have FX := hide fx
  have HL := hide hP.out.len
  clear fd fp fs fc fl fz fx
  go_enter Try.func28, Try.ntmps28
  go_wp2_with fail
  refine (plain_any H hP w).mono ?_
  rintro e w1 ⟨gl, gi, go, gt, rfl, h1⟩
  go_wp2_with fail
  refine (BBytes_any w1 (plainB H gl gi go gt) (h1.fine HL.out) (plainB_small _ _ _ _ _)).mono ?_
  rintro e w2 ⟨A2, n2, c2, rfl, t2, f2⟩
  rw [FD.out] at t2
  have hn2 := hide (show n2 = 143 by rw [← t2.len]; exact FL.out)
  have hb2 := hide (Below.then_ h1.below t2.below)
  go_wp2_with fail
  refine (BParse_any w2 A2 n2 c2 D.bytes t2.bys (by have := hn2.out; omega)).mono ?_
  rintro e w3 ⟨V, rfl, hd0, hf, hs0, hb3⟩
  rw [FP.out] at hd0 ⊢
  have hd := hide hd0
  have hs := hide hs0
  have HB3 := hide (Below.then_ hb2.out hb3)
  have T0 := hide (Blk.new w3 40 zeroB.cells)
  have HF := hide hf
  clear h1 t2 f2 hn2 hb2 hd0 hs0 hf hb3
  go_wp2_with (first
    | (refine wpList_alloc_agg rfl 40 rfl zeroB.cells zeroBlk_info ?_; simp only [Act.put, List.setIfInBounds_toArray, List.set_cons_zero, List.set_cons_succ])
    | (refine blk_store rfl _ _ rfl w3.heap.size zeroB V zeroH_fine HF.out.head (by rfl) (by rfl) T0.out ?_; intro w4 o4 b4; have T4 := hide b4; have hb4 : Below w3.heap.size w3 w4 := Below.trans ((Below.refl _ w3).alloc (Nat.le_refl _) _) (o4.below (by simp) (fun i hi e => by have h9 : i = w3.heap.size := e; omega)); have HV := hide (HF.out.below hb4); have HB4 := hide (Below.then_ HB3.out hb4); clear o4 b4 hb4; simp only [Act.put]))
  refine wp_region_held_drew (S := fun w' => Below w4.heap.size w4 w') (by kernel_rfl) (by exact (Below.refl _ _).drew) (fun hSA0 => ?_)
  obtain ⟨w4d, hwA⟩ : ∃ x, x = w4.drew := ⟨_, rfl⟩
  rw [← hwA] at hSA0 ⊢
  have hDA : Below w4.heap.size w4 w4d := by rw [hwA]; exact (Below.refl _ _).drew
  clear hwA
  (refine wpAnyH_take (i := 0) (oi := ⟨some 9, .move (.tmp 2), 69, "law.go:20", #[], none⟩) (v := ?_) rfl (by kernel_rfl) (by kernel_rfl) (by kernel_rfl) (fun _ _ _ h => h) (Or.inl ⟨by rfl, fun w' hSw => ?_⟩) hSA0 ?_; rotate_left; focus (go_simp; try with_reducible rfl))
  simp only [Act.put, List.setIfInBounds_toArray, List.set_cons_zero, List.set_cons_succ]
  (refine wpAnyH_take (i := 1) (oi := ⟨some 10, .binOp .eql 69 (.tmp 9) (.const (.int .i64 0)) 69, 4, "law.go:20", #[⟨0, .data⟩], none⟩) (v := ?_) rfl (by kernel_rfl) (by kernel_rfl) (by kernel_rfl) (fun _ _ _ h => h) (Or.inl ⟨by rfl, fun w' hSw => ?_⟩) hSA0 ?_; rotate_left; focus (go_simp; try with_reducible rfl))
  simp only [Act.put, List.setIfInBounds_toArray, List.set_cons_zero, List.set_cons_succ]
  (refine wpAnyH_take (i := 2) (oi := ⟨some 11, .move (.tmp 10), 4, "law.go:20", #[⟨1, .data⟩], none⟩) (v := ?_) rfl (by kernel_rfl) (by kernel_rfl) (by kernel_rfl) (fun _ _ _ h => h) (Or.inl ⟨by rfl, fun w' hSw => ?_⟩) hSA0 ?_; rotate_left; focus (go_simp; try with_reducible rfl))
  simp only [Act.put, List.setIfInBounds_toArray, List.set_cons_zero, List.set_cons_succ]
  (refine wpAnyH_take (i := 3) (oi := ⟨some 12, .load 40 (.tmp 1), 40, "law.go:20", #[⟨2, .guard⟩], some (2, true)⟩) (v := ?_) rfl (by kernel_rfl) (by kernel_rfl) (by kernel_rfl) (fun _ _ _ h => h) (Or.inl ⟨by rfl, fun w' hSw => ?_⟩) hSA0 ?_; rotate_left; focus (have lt := loadBlk_run w' w3.heap.size 0 V (range_under T4.out.whole hSw) HV.out.head; go_simp; try with_reducible rfl))
  simp only [Act.put, List.setIfInBounds_toArray, List.set_cons_zero, List.set_cons_succ]
  refine wpAnyH_ready (rs := [4]) (by kernel_rfl) (by simp) ?_
  refine AllReadyH.cons rfl (fun K hK => ?_) AllReadyH.nil
  go_simp
  go_wp2_with (go_at_call 42; refine (plain_any H hP w4d).mono ?_; rintro e w5 ⟨l5, i5, o5, t5, rfl, h5⟩)
  refine hK.out _ _ (Below.then_ hSA0 h5.below) (fun hSA1 => ?_)
  clear hK K
  refine wpAnyH_ready (rs := [5]) (by kernel_rfl) (by simp) ?_
  refine AllReadyH.cons rfl (fun K hK => ?_) AllReadyH.nil
  go_simp
  go_wp2_with (go_at_call 34; refine (BSame_any w5 V (plainB H l5 i5 o5 t5) (HV.out.below hSA1) (h5.fine HL.out) hs.out (plainB_small _ _ _ _ _)).mono ?_; rintro e w6 ⟨rfl, b6⟩; rw [FD.out, hd.out, FS.out])
  refine hK.out _ _ (Below.then_ hSA1 b6) (fun hSA2 => ?_)
  clear hK K
  (refine wpAnyH_take (i := 6) (oi := ⟨some 15, .pick (.tmp 11) (.tmp 14) (.const (.bool Bool.false)), 4, "law.go:20", #[⟨2, .data⟩, ⟨5, .data⟩], none⟩) (v := ?_) rfl (by kernel_rfl) (by kernel_rfl) (by kernel_rfl) (fun _ _ _ h => h) (Or.inl ⟨by rfl, fun w' hSw => ?_⟩) hSA2 ?_; rotate_left; focus (go_simp; try with_reducible rfl))
  simp only [Act.put, List.setIfInBounds_toArray, List.set_cons_zero, List.set_cons_succ]
  (refine wpAnyH_take (i := 7) (oi := ⟨some 16, .move (.tmp 15), 4, "law.go:20", #[⟨6, .data⟩, ⟨5, .chain⟩], none⟩) (v := ?_) rfl (by kernel_rfl) (by kernel_rfl) (by kernel_rfl) (fun _ _ _ h => h) (Or.inl ⟨by rfl, fun w' hSw => ?_⟩) hSA2 ?_; rotate_left; focus (go_simp; try with_reducible rfl))
  simp only [Act.put, List.setIfInBounds_toArray, List.set_cons_zero, List.set_cons_succ]
  (refine wpAnyH_take (i := 8) (oi := ⟨some 17, .load 40 (.tmp 1), 40, "law.go:20", #[⟨7, .guard⟩], some (7, true)⟩) (v := ?_) rfl (by kernel_rfl) (by kernel_rfl) (by kernel_rfl) (fun _ _ _ h => h) (Or.inl ⟨by rfl, fun w' hSw => ?_⟩) hSA2 ?_; rotate_left; focus (have lt := loadBlk_run w' w3.heap.size 0 V (range_under T4.out.whole hSw) HV.out.head; go_simp; try with_reducible rfl))
  simp only [Act.put, List.setIfInBounds_toArray, List.set_cons_zero, List.set_cons_succ]
  refine wpAnyH_ready (rs := [9]) (by kernel_rfl) (by simp) ?_
  refine AllReadyH.cons rfl (fun K hK => ?_) AllReadyH.nil
  go_simp
  go_wp2_with (go_at_call 36; refine (BCheck_any w6 V (HV.out.below hSA2) hs.out).mono ?_; rintro e w7 ⟨rfl, b7⟩; rw [hd.out, FC.out])
  refine hK.out _ _ (Below.then_ hSA2 b7) (fun hSA3 => ?_)
  clear hK K
  (refine wpAnyH_take (i := 10) (oi := ⟨some 19, .binOp .eql 69 (.tmp 18) (.const (.int .i64 0)) 69, 4, "law.go:20", #[⟨9, .data⟩, ⟨7, .guard⟩], some (7, true)⟩) (v := ?_) rfl (by kernel_rfl) (by kernel_rfl) (by kernel_rfl) (fun _ _ _ h => h) (Or.inl ⟨by rfl, fun w' hSw => ?_⟩) hSA3 ?_; rotate_left; focus (go_simp; try with_reducible rfl))
  simp only [Act.put, List.setIfInBounds_toArray, List.set_cons_zero, List.set_cons_succ]
  (refine wpAnyH_take (i := 11) (oi := ⟨some 20, .pick (.tmp 16) (.tmp 19) (.const (.bool Bool.false)), 4, "law.go:20", #[⟨7, .data⟩, ⟨10, .data⟩], none⟩) (v := ?_) rfl (by kernel_rfl) (by kernel_rfl) (by kernel_rfl) (fun _ _ _ h => h) (Or.inl ⟨by rfl, fun w' hSw => ?_⟩) hSA3 ?_; rotate_left; focus (go_simp; try with_reducible rfl))
  simp only [Act.put, List.setIfInBounds_toArray, List.set_cons_zero, List.set_cons_succ]
  (refine wpAnyH_take (i := 12) (oi := ⟨some 21, .move (.tmp 20), 4, "law.go:20", #[⟨11, .data⟩, ⟨9, .chain⟩], none⟩) (v := ?_) rfl (by kernel_rfl) (by kernel_rfl) (by kernel_rfl) (fun _ _ _ h => h) (Or.inl ⟨by rfl, fun w' hSw => ?_⟩) hSA3 ?_; rotate_left; focus (go_simp; try with_reducible rfl))
  simp only [Act.put, List.setIfInBounds_toArray, List.set_cons_zero, List.set_cons_succ]
  (refine wpAnyH_take (i := 13) (oi := ⟨some 22, .fieldAddr 40 (.tmp 1) 0, 0, "law.go:20", #[⟨12, .guard⟩], some (12, true)⟩) (v := ?_) rfl (by kernel_rfl) (by kernel_rfl) (by kernel_rfl) (fun _ _ _ h => h) (Or.inl ⟨by rfl, fun w' hSw => ?_⟩) hSA3 ?_; rotate_left; focus (go_simp; try with_reducible rfl))
  simp only [Act.put, List.setIfInBounds_toArray, List.set_cons_zero, List.set_cons_succ]
  (refine wpAnyH_take (i := 14) (oi := ⟨some 23, .load 33 (.tmp 22), 33, "law.go:20", #[⟨13, .data⟩, ⟨12, .guard⟩], some (12, true)⟩) (v := ?_) rfl (by kernel_rfl) (by kernel_rfl) (by kernel_rfl) (fun _ _ _ h => h) (Or.inl ⟨by rfl, fun w' hSw => ?_⟩) hSA3 ?_; rotate_left; focus (have lt := loadHead_run w' w3.heap.size 0 V.head (range_under (blk_head T4.out) hSw) HV.out.head; go_simp; try with_reducible rfl))
  simp only [Act.put, List.setIfInBounds_toArray, List.set_cons_zero, List.set_cons_succ]
  (refine wpAnyH_take (i := 16) (oi := ⟨some 25, .build 31 #[], 31, "law.go:20", #[⟨12, .guard⟩], some (12, true)⟩) (v := ?_) rfl (by kernel_rfl) (by kernel_rfl) (by kernel_rfl) (fun _ _ _ h => h) (Or.inl ⟨by rfl, fun w' hSw => ?_⟩) hSA3 ?_; rotate_left; focus (go_simp; try with_reducible rfl))
  simp only [Act.put, List.setIfInBounds_toArray, List.set_cons_zero, List.set_cons_succ]
  refine wpAnyH_ready (rs := [15]) (by kernel_rfl) (by simp) ?_
  refine AllReadyH.cons rfl (fun K hK => ?_) AllReadyH.nil
  go_simp
  go_wp2_with (go_at_call 41; refine (BId_any w7 V.head HV.out.head).mono ?_; rintro e w8 ⟨rfl, b8⟩; rw [show V.head = D.head by rw [← hd.out]; rfl, FX.out])
  refine hK.out _ _ (Below.then_ hSA3 b8) (fun hSA4 => ?_)
  clear hK K
  (refine wpAnyH_take (i := 17) (oi := ⟨some 26, .binOp .neq 31 (.tmp 24) (.tmp 25) 31, 4, "law.go:20", #[⟨15, .data⟩, ⟨16, .data⟩, ⟨12, .guard⟩], some (12, true)⟩) (v := ?_) rfl (by kernel_rfl) (by kernel_rfl) (by kernel_rfl) (fun _ _ _ h => h) (Or.inl ⟨by rfl, fun w' hSw => ?_⟩) hSA4 ?_; rotate_left; focus (have le := FZ.out w'; go_simp; try with_reducible rfl))
  simp only [Act.put, List.setIfInBounds_toArray, List.set_cons_zero, List.set_cons_succ]
  (refine wpAnyH_take (i := 18) (oi := ⟨some 27, .pick (.tmp 21) (.tmp 26) (.const (.bool Bool.false)), 4, "law.go:20", #[⟨12, .data⟩, ⟨17, .data⟩], none⟩) (v := ?_) rfl (by kernel_rfl) (by kernel_rfl) (by kernel_rfl) (fun _ _ _ h => h) (Or.inl ⟨by rfl, fun w' hSw => ?_⟩) hSA4 ?_; rotate_left; focus (go_simp; try with_reducible rfl))
  simp only [Act.put, List.setIfInBounds_toArray, List.set_cons_zero, List.set_cons_succ]
  (refine wpAnyH_take (i := 19) (oi := ⟨some 0, .assign (.tmp 27), 4, "law.go:20", #[⟨18, .data⟩, ⟨15, .chain⟩, ⟨0, .phase⟩, ⟨1, .phase⟩, ⟨2, .phase⟩, ⟨3, .phase⟩, ⟨4, .phase⟩, ⟨5, .phase⟩, ⟨6, .phase⟩, ⟨7, .phase⟩, ⟨8, .phase⟩, ⟨9, .phase⟩, ⟨10, .phase⟩, ⟨11, .phase⟩, ⟨12, .phase⟩, ⟨13, .phase⟩, ⟨14, .phase⟩, ⟨15, .phase⟩, ⟨16, .phase⟩, ⟨17, .phase⟩, ⟨18, .phase⟩], none⟩) (v := ?_) rfl (by kernel_rfl) (by kernel_rfl) (by kernel_rfl) (fun _ _ _ h => h) (Or.inl ⟨by rfl, fun w' hSw => ?_⟩) hSA4 ?_; rotate_left; focus (go_simp; try with_reducible rfl))
  simp only [Act.put, List.setIfInBounds_toArray, List.set_cons_zero]
  refine wpAnyH_done (by kernel_rfl) ?_ _
  go_wp2_with fail
  go_ret
  exact ⟨rfl, Below.then_ HB4.out hSA4⟩
end Go.Proofs.Ytbpmcnfmgaolnaa
