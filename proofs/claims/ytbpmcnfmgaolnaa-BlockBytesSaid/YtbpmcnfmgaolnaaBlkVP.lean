import Derived.Test.YtbpmcnfmgaolnaaPk23
/-
  great: is a block too great to be looked at?
-/
namespace Go.Proofs.Ytbpmcnfmgaolnaa
open Go.RowKit

/-- What is looked at: at most 30 of each, 2000 bytes each. -/
structure TxV.Fit (t : TxV) : Prop where
  ins : t.iN ≤ 30
  outs : t.oN ≤ 30
  unlock : ∀ a ∈ t.ins, a.n ≤ 2000
  lock : ∀ a ∈ t.outs, a.n ≤ 2000
theorem TxV.Fit.small {t : TxV} (h : t.Fit) : t.Small := ⟨by have := h.ins; omega, by have := h.outs; omega, fun a ha => by have := h.unlock a ha; omega, fun a ha => by have := h.lock a ha; omega⟩
structure BlkV.Fit (b : BlkV) : Prop where
  n : b.n ≤ 40
  txs : ∀ t ∈ b.txs, t.Fit
theorem BlkV.Fit.small {b : BlkV} (h : b.Fit) : b.Small := ⟨by have := h.n; omega, fun t ht => (h.txs t ht).small⟩
theorem forall_take {α : Type} {p : α → Prop} {l : List α} {j : Nat} {a : α} (h : ∀ x ∈ l.take j, p x) (ha : l[j]? = some a) (hp : p a) : ∀ x ∈ l.take (j + 1), p x := by
  intro x hx
  rw [List.take_add_one, ha] at hx
  rcases List.mem_append.1 hx with h1 | h1
  · exact h x h1
  · simp at h1; subst h1; exact hp
def GreatPost (b : BlkV) (w : World) (e : Ending) (w' : World) : Prop := ∃ q : Bool, e = .returned (.bool q) ∧ (q = false → b.Fit) ∧ Below w.heap.size w w'
theorem GreatPost.yes {b : BlkV} {w w' : World} (h : Below w.heap.size w w') : GreatPost b w (.returned (.bool true)) w' := ⟨true, rfl, by simp, h⟩
theorem GreatPost.any {b : BlkV} {q : Bool} {w w' : World} (hf : b.Fit) (h : Below w.heap.size w w') : GreatPost b w (.returned (.bool q)) w' := ⟨q, rfl, fun _ => hf, h⟩
attribute [local go_sem ↓] loadIn_fold loadTx_fold
set_option maxHeartbeats 4000000 in
set_option maxRecDepth 100000 in
theorem bgreat_any (w : World) (b : BlkV) (hf : b.Fine w) :
    Calls Try.prog 31 #[.agg b.cells.toArray] w (GreatPost b w) := by
  have B0 := Blk.new w 40 b.cells
  have hb0 := hide (show Below w.heap.size w (w.alloc (.cells b.cells.toArray 40)) from below_alloc (Below.refl _ _) _)
  have HF := hide (hf.below hb0.out)
  have k68 := blk_txs B0 hf.head
  clear hf B0
  by_cases h1 : 40 < b.n
  · have hc1 : (40 : Int) < (b.n : Int) := by omega
    clear h1
    go_enter Try.func31, Try.ntmps31
    go_wp2_with fail
    go_ret
    exact GreatPost.yes hb0.out
  · have hc1 : ¬ (40 : Int) < (b.n : Int) := by omega
    have HN := hide (show b.n ≤ 40 by omega)
    clear h1
    go_enter Try.func31, Try.ntmps31
    go_wp2_with fail
    obtain ⟨w1, hw1⟩ : ∃ w1, w1 = w.alloc (.cells b.cells.toArray 40) := ⟨_, rfl⟩
    rw [← hw1] at HF hb0 ⊢
    clear hw1 k68
    have hn9 : (b.n : Int) ≤ 40 := by have := HN.out; omega
    go_loopw [3, 17] (fun z i wr => ∃ (j : Nat) (s : Int), j ≤ b.n ∧ z = .int .i64 s ∧ i = .int .i64 (j : Int) ∧ (∀ t ∈ b.txs.take j, t.Fit) ∧ Below w1.heap.size w1 wr) (fun _ i _ => b.n - (intOf i).toNat)
    case atStart => exact ⟨0, 0, by omega, rfl, rfl, by simp, Below.refl _ _⟩
    case round =>
      obtain ⟨j, s, hj, rfl, rfl, hA, hbw⟩ := hrel
      have HA := hide hA
      have HBW := hide hbw
      clear hA hbw
      by_cases hlt : j < b.n
      · obtain ⟨t, hta⟩ : ∃ t, b.txs[j]? = some t := ⟨_, List.getElem?_eq_getElem (by have := HF.out.txs.1; omega)⟩
        obtain ⟨pb, off, hpa, hrow⟩ := HF.out.txs.2.2 (by omega)
        have hld := loadTx_run wr pb (off + j * 4) t (range_under (hrow j t hta) HBW.out)
        have HTF := hide ((HF.out.txs.2.1 t (List.mem_of_getElem? hta)).below HBW.out)
        have HTA := hide hta
        have i0 : (0 : Int) ≤ (j : Int) := by omega
        have i1 : (j : Int) < (b.n : Int) := by omega
        clear hrow hta
        rw [hpa]
        by_cases h2 : 30 < t.iN ∨ 30 < t.oN
        · have hg : (30 : Int) < (t.iN : Int) ∨ (30 : Int) < (t.oN : Int) := by omega
          by_cases h3 : 30 < t.iN
          · have hg1 : (30 : Int) < (t.iN : Int) := by omega
            clear h2 hg h3
            go_wp2_with (first
              | (refine wpList_alloc_agg rfl 37 rfl zeroV.cells zeroTx_info ?_; simp only [Act.put, List.setIfInBounds_toArray, List.set_cons_zero, List.set_cons_succ])
              | (refine tx_store rfl _ _ rfl wr rfl (by rfl) t (by rfl) ?_; intro w5 b5 s5 k5; have y1 := k5.c1; have y2 := k5.c2; have B5 := hide b5; clear b5 s5 k5; simp only [Act.put]))
            go_ret
            exact GreatPost.yes (Below.then_ hb0.out (Below.then_ HBW.out B5.out))
          · have hg1 : ¬ (30 : Int) < (t.iN : Int) := by omega
            have hg2 : (30 : Int) < (t.oN : Int) := by omega
            clear h2 hg h3
            go_wp2_with (first
              | (refine wpList_alloc_agg rfl 37 rfl zeroV.cells zeroTx_info ?_; simp only [Act.put, List.setIfInBounds_toArray, List.set_cons_zero, List.set_cons_succ])
              | (refine tx_store rfl _ _ rfl wr rfl (by rfl) t (by rfl) ?_; intro w5 b5 s5 k5; have y1 := k5.c1; have y2 := k5.c2; have B5 := hide b5; clear b5 s5 k5; simp only [Act.put]))
            go_ret
            exact GreatPost.yes (Below.then_ hb0.out (Below.then_ HBW.out B5.out))
        · have hg1 : ¬ (30 : Int) < (t.iN : Int) := by omega
          have hg2 : ¬ (30 : Int) < (t.oN : Int) := by omega
          have HI := hide (show t.iN ≤ 30 ∧ t.oN ≤ 30 by omega)
          clear h2
          go_wp2_with (first
            | (refine wpList_alloc_agg rfl 37 rfl zeroV.cells zeroTx_info ?_; simp only [Act.put, List.setIfInBounds_toArray, List.set_cons_zero, List.set_cons_succ])
            | (refine tx_store rfl _ _ rfl wr rfl (by rfl) t (by rfl) ?_; intro w5 b5 s5 k5; have y1 := k5.c1; have y2 := k5.c2; have B5 := hide b5; have K5 := hide k5; clear b5 s5 k5; simp only [Act.put]))
          obtain ⟨pv, hpv⟩ : ∃ p, p = wr.heap.size := ⟨_, rfl⟩
          have HW5 := hide (Below.then_ HBW.out B5.out)
          have HT5 := hide (HTF.out.below B5.out)
          rw [← hpv] at y1 y2 ⊢
          have Y1 := hide y1
          have Y2 := hide y2
          clear hpv hld B5 K5 HTF y1 y2
          go_loopw [3, 34] (fun z i ws => ∃ (j2 : Nat) (s2 : Int), j2 ≤ t.iN ∧ z = .int .i64 s2 ∧ i = .int .i64 (j2 : Int) ∧ (∀ a ∈ t.ins.take j2, a.n ≤ 2000) ∧ Below w5.heap.size w5 ws) (fun _ i _ => t.iN - (intOf i).toNat)
          case atStart => exact ⟨0, s, by omega, rfl, rfl, by simp, Below.refl _ _⟩
          case round =>
            obtain ⟨j2, s2, hj2, rfl, rfl, hA2, hbw2⟩ := hrel
            have HA2 := hide hA2
            have HBW2 := hide hbw2
            by_cases hlt2 : j2 < t.iN
            · obtain ⟨a, ha⟩ : ∃ a, t.ins[j2]? = some a := ⟨_, List.getElem?_eq_getElem (by have := HT5.out.ins.1; omega)⟩
              have haf := HT5.out.ins.2.1 a (List.mem_of_getElem? ha)
              obtain ⟨pa, oa, hpa2, hra⟩ := HT5.out.ins.2.2 (by omega)
              have hld2 := loadIn_run wr pa (oa + j2 * 35) a (range_under (hra j2 a ha) hbw2) haf.ref
              have la : a.cells.length = 35 := InV.cells_len haf.ref
              have lz : zeroI.cells.length = 35 := rfl
              have hI := isIn
              have HAR := hide haf.ref
              have KZ := hide (Blk.new wr 60 zeroI.cells)
              have k0 : (0 : Int) ≤ (j2 : Int) := by omega
              have k1 : (j2 : Int) < (t.iN : Int) := by omega
              have k9 : (j2 : Int) ≤ 30 := by have := HI.out; omega
              have HGA := hide ha
              clear ha haf hra hA2 hbw2
              rw [hpa2]
              by_cases hu : a.n ≤ 2000
              · have hu1 : ¬ (2000 : Int) < (a.n : Int) := by omega
                have hu2 : ¬ (100000 : Int) < (a.n : Int) := by omega
                have HNX := hide (forall_take HA2.out HGA.out hu)
                clear hu
                go_wp2_with (first
                  | (refine wpList_alloc_agg rfl 60 rfl zeroI.cells zeroIn_info ?_; simp only [Act.put, List.setIfInBounds_toArray, List.set_cons_zero, List.set_cons_succ])
                  | (refine wpList_store_blk rfl 60 _ _ rfl wr.heap.size 0 60 zeroI.cells a.cells (by rfl) (by rfl) KZ.out (by rw [lz, la]; decide) (by rw [hI, la]) (InV.one a) ?_; intro w6 o6 z6 b6; rw [lay_all zeroI.cells _ (by rw [lz, la])] at b6; have y9 := InV.c33 b6.whole HAR.out; have BW5 := hide (Below.then_ HBW2.out ((below_alloc (Below.refl _ wr) (.cells zeroI.cells.toArray 60)).trans (o6.below (by simp [World.size_alloc]) (fun i hi e => by have h9 : i = wr.heap.size := e; omega)))); clear o6 z6 b6; simp only [Act.put]))
                exact ⟨⟨j2 + 1, _, by omega, rfl, by simp, HNX.out, BW5.out⟩, by simp [intOf]; omega⟩
              · have hu1 : (2000 : Int) < (a.n : Int) := by omega
                clear hu
                by_cases hu2 : (100000 : Int) < (a.n : Int)
                · go_wp2_with (first
                    | (refine wpList_alloc_agg rfl 60 rfl zeroI.cells zeroIn_info ?_; simp only [Act.put, List.setIfInBounds_toArray, List.set_cons_zero, List.set_cons_succ])
                    | (refine wpList_store_blk rfl 60 _ _ rfl wr.heap.size 0 60 zeroI.cells a.cells (by rfl) (by rfl) KZ.out (by rw [lz, la]; decide) (by rw [hI, la]) (InV.one a) ?_; intro w6 o6 z6 b6; rw [lay_all zeroI.cells _ (by rw [lz, la])] at b6; have y9 := InV.c33 b6.whole HAR.out; have BW5 := hide (Below.then_ HBW2.out ((below_alloc (Below.refl _ wr) (.cells zeroI.cells.toArray 60)).trans (o6.below (by simp [World.size_alloc]) (fun i hi e => by have h9 : i = wr.heap.size := e; omega)))); clear o6 z6 b6; simp only [Act.put]))
                  go_ret
                  exact GreatPost.yes (Below.then_ hb0.out (Below.then_ HW5.out BW5.out))
                · go_wp2_with (first
                    | (refine wpList_alloc_agg rfl 60 rfl zeroI.cells zeroIn_info ?_; simp only [Act.put, List.setIfInBounds_toArray, List.set_cons_zero, List.set_cons_succ])
                    | (refine wpList_store_blk rfl 60 _ _ rfl wr.heap.size 0 60 zeroI.cells a.cells (by rfl) (by rfl) KZ.out (by rw [lz, la]; decide) (by rw [hI, la]) (InV.one a) ?_; intro w6 o6 z6 b6; rw [lay_all zeroI.cells _ (by rw [lz, la])] at b6; have y9 := InV.c33 b6.whole HAR.out; have BW5 := hide (Below.then_ HBW2.out ((below_alloc (Below.refl _ wr) (.cells zeroI.cells.toArray 60)).trans (o6.below (by simp [World.size_alloc]) (fun i hi e => by have h9 : i = wr.heap.size := e; omega)))); clear o6 z6 b6; simp only [Act.put]))
                  go_ret
                  exact GreatPost.yes (Below.then_ hb0.out (Below.then_ HW5.out BW5.out))
            · have k1 : ¬ (j2 : Int) < (t.iN : Int) := by omega
              have hallI := hide (show ∀ a ∈ t.ins, a.n ≤ 2000 by have h9 := HA2.out; rw [List.take_of_length_le (by rw [HT5.out.ins.1]; omega)] at h9; exact h9)
              have y2 := cell_under HBW2.out Y2.out
              clear hA2 hbw2 HA2 hlt2 hj2
              go_wp2_with fail
              clear y2
              go_loopw [3, 52] (fun z i ws => ∃ (j3 : Nat) (s3 : Int), j3 ≤ t.oN ∧ z = .int .i64 s3 ∧ i = .int .i64 (j3 : Int) ∧ (∀ a ∈ t.outs.take j3, a.n ≤ 2000) ∧ Below w5.heap.size w5 ws) (fun _ i _ => t.oN - (intOf i).toNat)
              case atStart => exact ⟨0, s2, by omega, rfl, rfl, by simp, HBW2.out⟩
              case round =>
                obtain ⟨j3, s3, hj3, rfl, rfl, hA3, hbw3⟩ := hrel
                have HA3 := hide hA3
                have HBW3 := hide hbw3
                by_cases hlt3 : j3 < t.oN
                · obtain ⟨a, ha⟩ : ∃ a, t.outs[j3]? = some a := ⟨_, List.getElem?_eq_getElem (by have := HT5.out.outs.1; omega)⟩
                  obtain ⟨pa, oa, hpa3, hra⟩ := HT5.out.outs.2.2 (by omega)
                  have hr := range_under (hra j3 a ha) hbw3
                  have k0 := rangeAt_c0 hr
                  have k1 := rangeAt_c1 hr
                  have k2 : (0 : Int) ≤ (j3 : Int) := by omega
                  have k3 : (j3 : Int) < (t.oN : Int) := by omega
                  have k9 : (j3 : Int) ≤ 30 := by have := HI.out; omega
                  have HGA := hide ha
                  have HWR := hide (Below.then_ hbw3 (below_alloc (Below.refl _ wr) (.cells #[.int .i64 a.v, .slice a.A a.n a.c] 62)))
                  clear ha hra hA3 hbw3 hr
                  rw [hpa3]
                  by_cases hu : a.n ≤ 2000
                  · have hu1 : ¬ (2000 : Int) < (a.n : Int) := by omega
                    have hu2 : ¬ (100000 : Int) < (a.n : Int) := by omega
                    have HNX := hide (forall_take HA3.out HGA.out hu)
                    clear hu
                    go_wp2_with fail
                    exact ⟨⟨j3 + 1, _, by omega, rfl, by simp, HNX.out, HWR.out⟩, by simp [intOf]; omega⟩
                  · have hu1 : (2000 : Int) < (a.n : Int) := by omega
                    clear hu
                    by_cases hu2 : (100000 : Int) < (a.n : Int)
                    · go_wp2_with fail
                      go_ret
                      exact GreatPost.yes (Below.then_ hb0.out (Below.then_ HW5.out HWR.out))
                    · go_wp2_with fail
                      go_ret
                      exact GreatPost.yes (Below.then_ hb0.out (Below.then_ HW5.out HWR.out))
                · have k1 : ¬ (j3 : Int) < (t.oN : Int) := by omega
                  have hfit := hide (show t.Fit from ⟨HI.out.1, HI.out.2, hallI.out, by have h9 := HA3.out; rw [List.take_of_length_le (by rw [HT5.out.outs.1]; omega)] at h9; exact h9⟩)
                  have HNT := hide (forall_take HA.out HTA.out hfit.out)
                  have HBO := hide (Below.then_ HW5.out HBW3.out)
                  clear hA3 hbw3 HA3 hlt3 hj3
                  go_wp2_with fail
                  exact ⟨⟨j + 1, _, by omega, rfl, by simp, HNT.out, HBO.out⟩, by simp [intOf]; omega⟩
      · have i1 : ¬ (j : Int) < (b.n : Int) := by omega
        have hall := hide (show ∀ t ∈ b.txs, t.Fit by have h9 := HA.out; rw [List.take_of_length_le (by rw [HF.out.txs.1]; omega)] at h9; exact h9)
        clear hlt hj
        go_wp2_with fail
        go_ret
        exact GreatPost.any ⟨HN.out, hall.out⟩ (Below.then_ hb0.out HBW.out)
end Go.Proofs.Ytbpmcnfmgaolnaa
