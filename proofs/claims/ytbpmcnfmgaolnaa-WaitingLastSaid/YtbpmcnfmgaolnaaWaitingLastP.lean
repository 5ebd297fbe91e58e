import Derived.Test.YtbpmcnfmgaolnaaPk27
/-
  bynamelaw22.WaitingLast: the walk.
-/
namespace Go.Proofs.Ytbpmcnfmgaolnaa
open Go.RowKit

/-! ### Plain -/
theorem addD_ne (L : List BlkD) (b : BlkD) : (addD L b).1 ≠ [] := by
  unfold addD
  by_cases h : hasD L (sha2 b.head.bytes) = true
  · rw [if_pos h]
    rintro rfl
    simp [hasD] at h
  · rw [if_neg h]; simp
theorem addD_mem {L : List BlkD} {b x : BlkD} (h : x ∈ (addD L b).1) : x ∈ L ∨ x = b := by
  unfold addD at h
  by_cases h1 : hasD L (sha2 b.head.bytes) = true
  · rw [if_pos h1] at h; exact .inl h
  · rw [if_neg h1] at h
    rcases List.mem_append.1 h with h2 | h2
    · by_cases h8 : L.length = 8
      · rw [if_pos h8] at h2; exact .inl (List.mem_of_mem_tail h2)
      · rw [if_neg h8] at h2; exact .inl h2
    · exact .inr (List.mem_singleton.1 h2)
theorem Sole.heads {L : List BlkD} (h : Sole L) (i j : Nat) (hij : i < j) (a b : BlkD) (ha : L[i]? = some a) (hb : L[j]? = some b) : a.head ≠ b.head := by
  intro e
  have hp := List.pairwise_iff_getElem.1 h i j (by rw [List.length_map]; exact (List.getElem?_eq_some_iff.1 ha).1) (by rw [List.length_map]; exact (List.getElem?_eq_some_iff.1 hb).1) hij
  obtain ⟨hi, rfl⟩ := List.getElem?_eq_some_iff.1 ha
  obtain ⟨hj, rfl⟩ := List.getElem?_eq_some_iff.1 hb
  apply hp
  rw [List.getElem_map, List.getElem_map, e]
theorem filter_halves {α : Type} (p : α → Bool) : ∀ L : List α, (L.filter fun b => !p b).length + (L.filter p).length = L.length
  | [] => rfl
  | a :: l => by
    have h := filter_halves p l
    by_cases ha : p a = true
    · rw [List.filter_cons_of_pos ha, List.filter_cons_of_neg (by simp [ha])]; simp only [List.length_cons]; omega
    · rw [List.filter_cons_of_neg ha, List.filter_cons_of_pos (by simpa using ha)]; simp only [List.length_cons]; omega
theorem taken_gone {L : List BlkD} {p : List Int} (h : Sole L) {b : BlkD} (hb : b ∈ (takeD L p).1) : hasD (takeD L p).2 (sha2 b.head.bytes) = false := by
  by_cases h9 : hasD (takeD L p).2 (sha2 b.head.bytes) = true
  · exfalso
    rw [hasD_iff, List.mem_map] at h9
    obtain ⟨x, hx, hxe⟩ := h9
    simp only [takeD, List.mem_filter] at hb hx
    obtain ⟨i, hi⟩ := List.mem_iff_getElem?.1 hb.1
    obtain ⟨j, hj⟩ := List.mem_iff_getElem?.1 hx.1
    have hne : i ≠ j := by
      rintro rfl
      rw [hi] at hj
      injection hj with hj
      subst hj
      simp [hb.2] at hx
    have hp : ∀ (i j : Nat) (a b : BlkD), i < j → L[i]? = some a → L[j]? = some b → sha2 a.head.bytes ≠ sha2 b.head.bytes := fun i j a b hij ha hb e => by
      have hp := List.pairwise_iff_getElem.1 h i j (by rw [List.length_map]; exact (List.getElem?_eq_some_iff.1 ha).1) (by rw [List.length_map]; exact (List.getElem?_eq_some_iff.1 hb).1) hij
      obtain ⟨hi, rfl⟩ := List.getElem?_eq_some_iff.1 ha
      obtain ⟨hj, rfl⟩ := List.getElem?_eq_some_iff.1 hb
      apply hp
      rw [List.getElem_map, List.getElem_map, e]
    rcases Nat.lt_or_gt_of_ne hne with h1 | h1
    · exact hp i j b x h1 hi hj hxe.symm
    · exact hp j i x b h1 hj hi hxe
  · simpa using h9
theorem take_twice (L : List BlkD) (p : List Int) : (takeD (takeD L p).2 p).1 = [] := by
  simp only [takeD]
  rw [List.filter_eq_nil_iff]
  intro b hb
  simpa using (List.mem_filter.1 hb).2
theorem LRow.head_ {w : World} {A : Option Addr} {n k : Nat} {xs : List BlkV} (h : BlksIn w A n xs) (hk : k ≤ n) : BlksIn w A k (xs.take k) := by
  refine ⟨by rw [List.length_take, h.1]; omega, fun a ha => h.2.1 a (List.mem_of_mem_take ha), fun h0 => ?_⟩
  obtain ⟨b, off, e, hr⟩ := h.2.2 (by omega)
  refine ⟨b, off, e, fun i a ha => hr i a ?_⟩
  rw [List.getElem?_take] at ha
  split at ha
  · exact ha
  · cases ha
def sliceH (v u : Value) : Sem Value := Instr.slice 26 v none (some u) none
theorem sliceH_fold (v u : Value) : Instr.slice 26 v none (some u) none = sliceH v u := rfl
theorem sliceH_run (b off m c k : Nat) (hk : k ≤ m) (hc : m ≤ c) (h0 : 0 < c) (w : World) : (sliceH (.slice (some ⟨b, off, none⟩) m c) (.int .i64 (k : Int))).run Try.prog w = .ok (.slice (some ⟨b, off, none⟩) k c) w := by
  have hel : Try.prog.elem 26 = 40 := by kernel_rfl
  have hu : Try.prog.underlying 26 = some (.slice (Try.prog.elem 26)) := by rw [hel]; exact Try.underlying26
  have := run_slice_h (P := Try.prog) w _ (some ⟨b, off, none⟩) m c hu .i64 k (by omega) (by omega)
  rw [hel, run_size isBlk w] at this
  rw [sliceH, this]
  have hne : ¬ c = 0 := by omega
  simp [Result.andThen, sliced, hne, Addr.add]
attribute [local go_sem ↓] loadBlk_fold loadHead_fold mkHead_fold mkBlk_fold mkHash_fold sliceH_fold eqlHead_fold
attribute [local go_sem] mkHash_1 mkHead_np guardHead
/-- A block of the law's. -/
def Third (b : BlkD) : Prop := ∃ v : Int, 0 ≤ v ∧ v ≤ 4294967295 ∧ b = bareD (headNP v (hash1 (v % 3)))
theorem hash1_inj {a b : Int} (h : hash1 a = hash1 b) : a = b := by
  have := congrArg List.head? h
  simpa [hash1] using this
def lastP : Nat → Prop := fun _ => False
set_option maxHeartbeats 8000000 in
set_option maxRecDepth 100000 in
theorem wlast_main (w : World) (A : Option Addr) (n c : Nat) (xs : List Int) (hA : NumsIn w A n xs) (hn : n ≤ 100) :
    Calls Try.prog 4 #[.slice A n c] w fun e w' => e = .returned (.bool true) ∧ Below w.heap.size w w' := by
  have HA := hide hA
  have n9 : (n : Int) ≤ 100 := by omega
  clear hA hn
  go_enter Try.func4, Try.ntmps4
  go_wp2_with (go_at_call 15; refine (waitAlive_any _).mono ?_; rintro e w1 ⟨rfl, b1⟩; have B1 := hide b1; clear b1)
  refine (WNewD_any _).mono ?_
  rintro e w2 ⟨g, rfl, hg, b2, hr⟩
  have R2 := hide (hr lastP)
  have B2 := hide (Below.then_ B1.out b2)
  have G2 := hide R2.out.lt
  have HGW := hide (show w.heap.size ≤ g by have := B1.out.size; omega)
  clear hg b2 hr
  go_wp2_with fail
  go_loopw [23] (fun i ws => ∃ (j : Nat) (L : List BlkD), j ≤ n ∧ i = .int .i64 (j : Int) ∧ RingIs ws g lastP L ∧ Sole L ∧ (∀ b ∈ L, Third b) ∧ Only (fun i => i = g) w2 ws) (fun i _ => n - (intOf i).toNat)
  case atStart => exact ⟨0, [], by omega, rfl, R2.out, sole_nil, (fun b h => by cases h), Only.refl _ _⟩
  case round =>
    obtain ⟨j, L, hj, rfl, hri, hso, hth, ho⟩ := hrel
    have HR := hide hri
    have HS := hide hso
    have HT := hide hth
    have HO := hide ho
    have HB := hide (Only.ring B2.out HGW.out ho)
    clear hri hso hth ho
    by_cases hlt : j < n
    · obtain ⟨pb, off, hA9, hrow⟩ := (HA.out.below' HB.out).2.2 (by omega)
      subst hA9
      obtain ⟨v, hv⟩ : ∃ v, xs[j]? = some v := ⟨_, List.getElem?_eq_getElem (by rw [HA.out.1]; exact hlt)⟩
      have i1 : (j : Int) < (n : Int) := by omega
      have i0 : (0 : Int) ≤ (j : Int) := by omega
      have hjm := hide hlt
      have VF := hide (HA.out.2.1 v (List.mem_of_getElem? hv))
      have c0 : wr.cell? ⟨pb, off + j, none⟩ = some (.int .u32 v) := by
        have := rangeAt_c0 (hrow j v hv)
        rwa [Nat.mul_one] at this
      clear hv hlt hrow
      have HF0 := hide (hash1_byt (a := v % 3) ⟨by omega, by omega⟩)
      have HHF := hide (headNP_fine (v := v) (p := hash1 (v % 3)) VF.out rfl HF0.out)
      have hq3 : v.tmod 3 % 256 = v % 3 := by
        have := VF.out.1
        rw [Int.tmod_eq_emod_of_nonneg VF.out.1]; omega
      have hmb : (mkBlk #[(0, .agg (headNP v (hash1 (v.tmod 3 % 256))).cells.toArray)]).run Try.prog wr = .ok (.agg (bareB (headNP v (hash1 (v % 3)))).cells.toArray) wr := by rw [hq3]; exact mkBlk_bare _ HHF.out wr
      have HTH := hide (show Third (bareB (headNP v (hash1 (v % 3)))).d from ⟨v, VF.out.1, VF.out.2, rfl⟩)
      clear hq3
      go_wp2_with fail
      refine (Add_any wr g lastP L (bareB (headNP v (hash1 (v % 3)))) HR.out (bareB_fine HHF.out _) (bareB_good HHF.out) (fun i h => h.elim)).mono ?_
      rintro e w3 ⟨rfl, r3, o3⟩
      obtain ⟨D, hD⟩ : ∃ D, D = (bareB (headNP v (hash1 (v % 3)))).d := ⟨_, rfl⟩
      rw [← hD] at r3 HTH ⊢
      obtain ⟨L', hL'⟩ : ∃ L', L' = (addD L D).1 := ⟨_, rfl⟩
      obtain ⟨q9, hq9⟩ : ∃ q, q = (addD L D).2 := ⟨_, rfl⟩
      rw [← hq9]
      rw [← hL'] at r3
      have HS' := hide (show Sole L' by rw [hL']; exact addD_sole HS.out)
      have HT' := hide (show ∀ b ∈ L', Third b by
        rw [hL']
        intro b hb
        rcases addD_mem hb with h | h
        · exact HT.out b h
        · rw [h]; exact HTH.out)
      have hne := addD_ne L D
      rw [← hL'] at hne
      have R3 := hide r3
      have O3 := hide (HO.out.trans o3 fun _ _ h => h)
      obtain ⟨m, hm⟩ : ∃ m, m = L'.length := ⟨_, rfl⟩
      have m0 : 1 ≤ m := by rw [hm]; exact List.length_pos_iff.2 hne
      have m9 : (m : Int) ≤ 8 := by have := r3.len; omega
      have m1 : ((m : Int) == 0) = false := by simp; omega
      have HM := hide hm
      have HM0 := hide m0
      clear hD hL' hq9 r3 o3 hne hm m0 hmb c0
      go_wp2_with fail
      refine (All_any w3 g lastP L' R3.out).mono ?_
      rintro e w4 ⟨A4, c4, zs, rfl, ha, had, b4⟩
      rw [← HM.out] at ha ⊢
      have HZ := hide ha
      have HZD := hide had
      have B4 := hide b4
      obtain ⟨pb2, off2, hA4, _⟩ := ha.in_.2.2 (by have := HM0.out; omega)
      subst hA4
      have HCAP := hide ha.cap
      clear ha had b4
      go_wp2_with fail
      obtain ⟨wo, rfl⟩ : ∃ z, z = wr := ⟨_, rfl⟩
      go_loopw [7, 48] (fun v i ws => ∃ k : Nat, k ≤ m ∧ i = .int .i64 (k : Int) ∧ Below w4.heap.size w4 ws) (fun _ i _ => m - (intOf i).toNat)
      case atStart => exact ⟨0, by omega, rfl, Below.refl _ _⟩
      case round =>
        obtain ⟨k, hk, rfl, hb⟩ := hrel
        have HB4 := hide hb
        clear hb
        by_cases hlt : k < m
        · obtain ⟨pb3, off3, hA9, hrow⟩ := (HZ.out.in_.below' HB4.out).2.2 (by omega)
          injection hA9 with hA9
          injection hA9 with e1 e2 _
          subst e1; subst e2
          obtain ⟨x, hx⟩ : ∃ x, zs[k]? = some x := ⟨_, List.getElem?_eq_getElem (by rw [HZ.out.len]; exact hlt)⟩
          have HIX := hide (show L'[k]? = some x.d by rw [← HZD.out, List.getElem?_map, hx]; rfl)
          have XF := hide ((HZ.out.fine x (List.mem_of_getElem? hx)).head)
          have i1 : (k : Int) < (m : Int) := by omega
          have i0 : (0 : Int) ≤ (k : Int) := by omega
          have hkm := hide hlt
          have KZ := hide (Blk.new wr 40 zeroB.cells)
          have hld := loadBlk_run wr pb2 (off2 + k * 69) x (hrow k x hx) XF.out
          have hld2 := loadBlk_run _ pb2 (off2 + k * 69) x (range_under (hrow k x hx) (below_alloc (Below.refl _ wr) (.cells zeroB.cells.toArray 40))) XF.out
          have hsl := sliceH_run pb2 off2 m c4 k (by omega) HCAP.out (by have := HCAP.out; omega)
          clear hx hlt hrow
          go_wp2_with (first
            | (refine wpList_alloc_agg rfl 40 rfl zeroB.cells zeroBlk_info ?_; simp only [Act.put, List.setIfInBounds_toArray, List.set_cons_zero, List.set_cons_succ])
            | (refine wpList_store_bk rfl _ _ rfl wr.heap.size zeroB x zeroH_fine XF.out (by rfl) (by rfl) KZ.out ?_; intro w5 o5 z5 b5; have K5 := hide b5; have B5 := hide (show Below wr.heap.size wr w5 from Below.trans ((Below.refl _ wr).alloc (Nat.le_refl _) _) (o5.below (by simp) (fun i hi e => by have h9 : i = wr.heap.size := e; omega))); clear o5 z5 b5; simp only [Act.put]))
          obtain ⟨wq, rfl⟩ : ∃ z, z = wr := ⟨_, rfl⟩
          clear hld hld2
          go_loopw [57] (fun i ws => ∃ q : Nat, q ≤ k ∧ i = .int .i64 (q : Int) ∧ Below w5.heap.size w5 ws) (fun i _ => k - (intOf i).toNat)
          case atStart => exact ⟨0, by omega, rfl, Below.refl _ _⟩
          case round =>
            obtain ⟨q, hq, rfl, hb⟩ := hrel
            have HB5 := hide hb
            have HB45 := hide (Below.then_ (Below.then_ HB4.out B5.out) hb)
            clear hb
            by_cases hlt : q < k
            · obtain ⟨pb3, off3, hA9, hrow⟩ := (HZ.out.in_.below' HB45.out).2.2 (by omega)
              injection hA9 with hA9
              injection hA9 with e1 e2 _
              subst e1; subst e2
              obtain ⟨y, hy⟩ : ∃ y, zs[q]? = some y := ⟨_, List.getElem?_eq_getElem (by rw [HZ.out.len]; have := hkm.out; omega)⟩
              have HIY := hide (show L'[q]? = some y.d by rw [← HZD.out, List.getElem?_map, hy]; rfl)
              have HNE := hide (show ¬ x.head = y.head from fun e => HS'.out.heads q k hlt y.d x.d HIY.out HIX.out e.symm)
              have YF := hide ((HZ.out.fine y (List.mem_of_getElem? hy)).head)
              have j1 : (q : Int) < (k : Int) := by omega
              have j0 : (0 : Int) ≤ (q : Int) := by omega
              have hqk := hide hlt
              have KZ7 := hide (Blk.new wr 40 zeroB.cells)
              have hld := loadBlk_run wr pb2 (off2 + q * 69) y (hrow q y hy) YF.out
              have K5r := hide (K5.out.under HB5.out)
              clear hy hlt hrow
              go_wp2_with (first
                | (refine wpList_alloc_agg rfl 40 rfl zeroB.cells zeroBlk_info ?_; simp only [Act.put, List.setIfInBounds_toArray, List.set_cons_zero, List.set_cons_succ])
                | (refine wpList_store_bk rfl _ _ rfl wr.heap.size zeroB y zeroH_fine YF.out (by rfl) (by rfl) KZ7.out ?_; intro w7 o5 z5 b5; have B7 := hide (show Below wr.heap.size wr w7 from Below.trans ((Below.refl _ wr).alloc (Nat.le_refl _) _) (o5.below (by simp) (fun i hi e => by have h9 : i = wr.heap.size := e; omega))); have hl1 := loadHead_run w7 wq.heap.size 0 x.head (blk_head (K5r.out.under B7.out)) XF.out; have hl2 := loadHead_run w7 wr.heap.size 0 y.head (blk_head b5) YF.out; have heq := eqlHead_run x.head y.head XF.out YF.out w7; rw [decide_eq_false HNE.out] at heq; clear o5 z5 b5; simp only [Act.put]))
              exact ⟨⟨q + 1, by have := hqk.out; omega, by simp, Below.then_ HB5.out B7.out⟩, by have := hqk.out; simp [intOf]; omega⟩
            · have j1 : ¬ (q : Int) < (k : Int) := by omega
              go_wp2_with fail
              exact ⟨⟨k + 1, by have := hkm.out; omega, by simp, Below.then_ (Below.then_ HB4.out B5.out) HB5.out⟩, by have := hkm.out; simp [intOf]; omega⟩
        · have i1 : ¬ (k : Int) < (m : Int) := by omega
          go_wp2_with fail
          have B34 := Below.then_ B4.out HB4.out
          exact ⟨⟨j + 1, L', by have := hjm.out; omega, by simp, R3.out.under B34, HS'.out, HT'.out, O3.out.trans (Only.of_below B34 fun i => i = g) fun _ _ h => h⟩, by have := hjm.out; simp [intOf]; omega⟩
    · have i1 : ¬ (j : Int) < (n : Int) := by omega
      obtain ⟨wo, rfl⟩ : ∃ z, z = wr := ⟨_, rfl⟩
      clear hlt
      go_wp2_with fail
      refine (WLenD_any wo g lastP L HR.out).mono ?_
      rintro e wz ⟨rfl, hwz⟩
      rw [hwz]
      clear hwz
      go_wp2_with fail
      refine (Take_any wo g lastP L (hash1 1) HR.out HS.out rfl (fun i h => h.elim)).mono ?_
      rintro e w3 ⟨A3, n3, c3, ys, rfl, hy, hyd, r3, o3⟩
      have HY := hide hy
      have HYD := hide hyd
      have R3 := hide r3
      have B3 := hide (Only.ring B2.out HGW.out (HO.out.trans o3 fun _ _ h => h))
      have HN3 := hide (show (takeD L (hash1 1)).2.length + n3 = L.length by
        rw [← hy.len, ← List.length_map (f := BlkV.d), hyd]; exact filter_halves _ L)
      have HS3 := hide (show Sole (takeD L (hash1 1)).2 from HS.out.sublist List.filter_sublist)
      have HTT := hide (take_twice L (hash1 1))
      have n39 : (n3 : Int) ≤ 1000 := by have := HR.out.len; have := HN3.out; omega
      clear hy hyd r3 o3
      go_wp2_with fail
      go_loopw [76] (fun i ws => ∃ q : Nat, q ≤ n3 ∧ i = .int .i64 (q : Int) ∧ Below w3.heap.size w3 ws) (fun i _ => n3 - (intOf i).toNat)
      case atStart => exact ⟨0, by omega, rfl, Below.refl _ _⟩
      case round =>
        obtain ⟨q, hq, rfl, hb⟩ := hrel
        have HB3 := hide hb
        clear hb
        by_cases hlt : q < n3
        · obtain ⟨pb3, off3, hA9, hrow⟩ := (HY.out.in_.below' HB3.out).2.2 (by omega)
          subst hA9
          obtain ⟨y, hy⟩ : ∃ y, ys[q]? = some y := ⟨_, List.getElem?_eq_getElem (by rw [HY.out.len]; exact hlt)⟩
          have hym : y.d ∈ (takeD L (hash1 1)).1 := by rw [← HYD.out]; exact List.mem_map_of_mem (List.mem_of_getElem? hy)
          have HGONE := hide (taken_gone HS.out hym)
          have HNON := hide (show y.head.nonce.tmod 3 = 1 by
            simp only [takeD, List.mem_filter] at hym
            obtain ⟨v, hv0, hv1, e⟩ := HT.out y.d hym.1
            have e1 : y.head = headNP v (hash1 (v % 3)) := by rw [show y.head = y.d.head from rfl, e]; rfl
            have e2 : hash1 (v % 3) = hash1 1 := by
              have h9 := hym.2
              rw [e] at h9
              have h8 : (hash1 (v % 3) == hash1 1) = true := h9
              simpa using h8
            rw [e1]
            show v.tmod 3 = 1
            rw [Int.tmod_eq_emod_of_nonneg hv0]
            exact hash1_inj e2)
          have YF := hide ((HY.out.fine y (List.mem_of_getElem? hy)).head)
          have HYH := hide (show y.d.head = y.head from rfl)
          have i1 : (q : Int) < (n3 : Int) := by omega
          have i0 : (0 : Int) ≤ (q : Int) := by omega
          have hqn := hide hlt
          have KZ := hide (Blk.new wr 40 zeroB.cells)
          have hld := loadBlk_run wr pb3 (off3 + q * 69) y (hrow q y hy) YF.out
          obtain ⟨N, hN⟩ : ∃ N, N = y.head.nonce := ⟨_, rfl⟩
          have hN3 : N.tmod 3 = 1 := by rw [hN]; exact HNON.out
          have HNN := hide hN.symm
          clear hy hlt hrow hym hN
          go_wp2_with (first
            | (refine wpList_alloc_agg rfl 40 rfl zeroB.cells zeroBlk_info ?_; simp only [Act.put, List.setIfInBounds_toArray, List.set_cons_zero, List.set_cons_succ])
            | (refine wpList_store_bk rfl _ _ rfl wr.heap.size zeroB y zeroH_fine YF.out (by rfl) (by rfl) KZ.out ?_; intro w5 o5 z5 b5; have B5 := hide (show Below wr.heap.size wr w5 from Below.trans ((Below.refl _ wr).alloc (Nat.le_refl _) _) (o5.below (by simp) (fun i hi e => by have h9 : i = wr.heap.size := e; omega))); have hcn : w5.cell? ⟨wr.heap.size, 67, none⟩ = some (.int .u32 N) := (by rw [← HNN.out]; exact head_nonce b5 YF.out); have hl1 := loadHead_run w5 wr.heap.size 0 y.head (blk_head b5) YF.out; clear o5 z5 b5; simp only [Act.put]))
          refine (refBId_any w5 y.head YF.out).mono ?_
          rintro e w6 ⟨rfl, b6⟩
          obtain ⟨H, hH⟩ : ∃ H, H = sha2 y.head.bytes := ⟨_, rfl⟩
          have HHL := hide (show H.length = 32 by rw [hH]; exact sha2_len _)
          have hg := HGONE.out
          rw [HYH.out, ← hH] at hg
          rw [← hH]
          have HG := hide hg
          have B6 := hide (Below.then_ B5.out b6)
          clear hH hg b6
          go_wp2_with fail
          refine (WHas_any w6 g lastP _ H (R3.out.under (Below.then_ HB3.out B6.out)) HHL.out).mono ?_
          rintro e w7 ⟨rfl, b7⟩
          rw [HG.out]
          have B7 := hide (Below.then_ B6.out b7)
          clear b7
          go_wp2_with fail
          exact ⟨⟨q + 1, by have := hqn.out; omega, by simp, Below.then_ HB3.out B7.out⟩, by have := hqn.out; simp [intOf]; omega⟩
        · have i1 : ¬ (q : Int) < (n3 : Int) := by omega
          go_wp2_with fail
          obtain ⟨wp, rfl⟩ : ∃ z, z = wr := ⟨_, rfl⟩
          have R4 := hide (R3.out.under HB3.out)
          have B4 := hide (Below.then_ B3.out HB3.out)
          obtain ⟨L2, hL2⟩ : ∃ L2, L2 = (takeD L (hash1 1)).2 := ⟨_, rfl⟩
          have hn3 := HN3.out
          have ht2 := HTT.out
          have hs3 := HS3.out
          have r4 := R4.out
          rw [← hL2] at hn3 ht2 hs3 r4
          have HN4 := hide hn3
          have HT4 := hide ht2
          have HS4 := hide hs3
          have RR := hide r4
          have hsum : (L2.length : Int) + (n3 : Int) = (L.length : Int) := by omega
          have hl8 : (L2.length : Int) ≤ 8 := by have := r4.len; omega
          clear hn3 ht2 hs3 r4 hL2
          refine (WLenD_any wp g lastP L2 RR.out).mono ?_
          rintro e wz2 ⟨rfl, hwz⟩
          rw [hwz]
          clear hwz
          go_wp2_with fail
          refine (Take_any wp g lastP L2 (hash1 1) RR.out HS4.out rfl (fun i h => h.elim)).mono ?_
          rintro e w5 ⟨A5, n5, c5, us, rfl, hu, hud, r5, o5⟩
          have h5 : n5 = 0 := by rw [← hu.len, ← List.length_map (f := BlkV.d), hud, HT4.out]; rfl
          subst h5
          have B5 := hide (B4.out.trans (o5.below B4.out.size fun i hi e => by have h9 : i = g := e; have := HGW.out; omega))
          clear hu hud r5 o5
          go_wp2_with fail
          go_ret
          exact ⟨rfl, B5.out⟩
set_option maxHeartbeats 2000000 in
set_option maxRecDepth 100000 in
theorem wlast_skip (w : World) (A : Option Addr) (n c : Nat) (hn : ¬ n ≤ 100) :
    Calls Try.prog 4 #[.slice A n c] w fun e w' => e = .returned (.bool true) ∧ Below w.heap.size w w' := by
  have n9 : ¬ (n : Int) ≤ 100 := by omega
  clear hn
  go_enter Try.func4, Try.ntmps4
  go_wp2_with (go_at_call 15; refine (waitAlive_any _).mono ?_; rintro e w1 ⟨rfl, b1⟩; have B1 := hide b1; clear b1)
  go_ret
  exact ⟨rfl, B1.out⟩
theorem wlast_any (w : World) (A : Option Addr) (n c : Nat) (xs : List Int) (hA : NumsIn w A n xs) :
    Calls Try.prog 4 #[.slice A n c] w fun e w' => e = .returned (.bool true) ∧ Below w.heap.size w w' := by
  by_cases h : n ≤ 100
  · exact wlast_main w A n c xs hA h
  · exact wlast_skip w A n c h
end Go.Proofs.Ytbpmcnfmgaolnaa
