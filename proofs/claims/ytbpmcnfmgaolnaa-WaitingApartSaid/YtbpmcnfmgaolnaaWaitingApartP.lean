import Derived.Test.YtbpmcnfmgaolnaaPk27
/-
  bynamelaw22.WaitingApart: the walk.
-/
namespace Go.Proofs.Ytbpmcnfmgaolnaa
open Go.RowKit

theorem mkIn_lock (A : Option Addr) (n c : Nat) (bs : List Int) (w : World) : (mkIn #[(1, .slice A n c)]).run Try.prog w = .ok (.agg (⟨zeroR, A, n, c, bs, 0⟩ : InV).cells.toArray) w := by kernel_rfl
theorem mkTx_pair (A B : Option Addr) (n c m d : Nat) (w : World) : (mkTx #[(1, .slice A n c), (2, .slice B m d)]).run Try.prog w = .ok (.agg #[.int .u32 0, .slice A n c, .slice B m d, .int .u32 0]) w := by kernel_rfl
/-- Bytes that a block keeps, whatever turns below base, lie at base or above. -/
theorem KeepB.above {w : World} {V : BlkV} {F : Nat → Prop} {base : Nat} (h : KeepB w V F) (hF : ∀ i, i < base → F i) {t : TxV} (ht : t ∈ V.txs) {o : OutV} (ho : o ∈ t.outs) {b off : Nat} (hA : o.A = some ⟨b, off, none⟩) (hn : o.bs = [3]) : base ≤ b := by
  rcases Nat.lt_or_ge b base with h1 | h1
  · exfalso
    have h3 := ((h.fine.txs.2.1 t ht).outs.2.1 o ho).bys
    have hl : o.n = 1 := by rw [← h3.1, hn]; rfl
    obtain ⟨b', off', e', hc⟩ := h3.2.2 (by omega)
    rw [hA] at e'
    injection e' with e'
    injection e' with e1 e2 _
    subst e1; subst e2
    have hc0 := hc 0 3 (by rw [hn]; rfl)
    obtain ⟨w', hw'⟩ : ∃ w', w' = w.setCell ⟨b, off + 0, none⟩ (.int .u8 4) := ⟨_, rfl⟩
    have hf := h w' (by rw [hw']; exact (Only.cell1 _ _ _ _).mono fun i _ e => by have h9 : i = b := e; rw [h9]; exact hF b h1)
    have h5 := ((hf.txs.2.1 t ht).outs.2.1 o ho).bys
    obtain ⟨b'', off'', e'', hd⟩ := h5.2.2 (by omega)
    rw [hA] at e''
    injection e'' with e''
    injection e'' with e1 e2 _
    subst e1; subst e2
    have hd0 := hd 0 3 (by rw [hn]; rfl)
    rw [hw', World.cell?_setCell_same _ _ _ hc0] at hd0
    simp at hd0
  · exact h1
theorem one_of {α : Type} {l : List α} (h : l.length = 1) : ∃ x, l = [x] := by
  match l, h with
  | [x], _ => exact ⟨x, rfl⟩
/-- The way to the lock's one byte. -/
theorem lock_way {w : World} {A : Option Addr} {xs : List BlkV} {h : HeadD} {u : Int} (hX : BlksIn w A 1 xs) (hd : xs.map BlkV.d = [apD h u]) :
    ∃ (V : BlkV) (t : TxV) (o : OutV) (vb vo tb tf ob oo lb lo : Nat) (tc oc lc : Nat), xs = [V] ∧ t ∈ V.txs ∧ o ∈ t.outs ∧ o.bs = [3] ∧ o.A = some ⟨lb, lo, none⟩ ∧ A = some ⟨vb, vo, none⟩ ∧ w.cell? ⟨vb, vo + 68, none⟩ = some (.slice (some ⟨tb, tf, none⟩) 1 tc) ∧
      w.cell? ⟨tb, tf + 2, none⟩ = some (.slice (some ⟨ob, oo, none⟩) 1 oc) ∧ w.cell? ⟨ob, oo + 1, none⟩ = some (.slice (some ⟨lb, lo, none⟩) 1 lc) ∧ w.cell? ⟨lb, lo, none⟩ = some (.int .u8 3) ∧ w.frozen? ⟨lb, lo, none⟩ = false := by
  obtain ⟨V, rfl⟩ := one_of (l := xs) hX.1
  have hVd : V.d = apD h u := by simpa using hd
  have hV := hX.2.1 V (List.mem_singleton.2 rfl)
  obtain ⟨vb, vo, hA, hr⟩ := hX.2.2 (by decide)
  have r0 := hr 0 V rfl
  have htx : V.txs.map TxV.d = [⟨0, [⟨zeroR, [u, 2], 0⟩], [⟨0, [3]⟩], 0⟩] := congrArg BlkD.txs hVd
  obtain ⟨t, ht⟩ := one_of (l := V.txs) (by rw [← List.length_map (f := TxV.d), htx]; rfl)
  have hVn : V.n = 1 := by rw [← hV.txs.1, ht]; rfl
  have htd : t.d = ⟨0, [⟨zeroR, [u, 2], 0⟩], [⟨0, [3]⟩], 0⟩ := by rw [ht] at htx; simpa using htx
  have htm : t ∈ V.txs := by rw [ht]; exact List.mem_singleton.2 rfl
  have hT := hV.txs.2.1 t htm
  obtain ⟨tb, tf, hVA, hr1⟩ := hV.txs.2.2 (by omega)
  have r1 := hr1 0 t (by rw [ht]; rfl)
  have hou : t.outs.map OutV.d = [⟨0, [3]⟩] := congrArg TxD.outs htd
  obtain ⟨o, ho⟩ := one_of (l := t.outs) (by rw [← List.length_map (f := OutV.d), hou]; rfl)
  have hon : t.oN = 1 := by rw [← hT.outs.1, ho]; rfl
  have hom : o ∈ t.outs := by rw [ho]; exact List.mem_singleton.2 rfl
  have hod : o.bs = [3] := by rw [ho] at hou; have : o.d = ⟨0, [3]⟩ := by simpa using hou
                              exact congrArg OutD.lock this
  have hO := hT.outs.2.1 o hom
  obtain ⟨ob, oo, hoA, hr2⟩ := hT.outs.2.2 (by omega)
  have r2 := hr2 0 o (by rw [ho]; rfl)
  have hln : o.n = 1 := by rw [← hO.bys.1, hod]; rfl
  obtain ⟨lb, lo, hlA, hl⟩ := hO.bys.2.2 (by omega)
  have h3 := hl 0 3 (by rw [hod]; rfl)
  have hfz := hO.free _ hlA 0 (by omega)
  have q0 := r0 68 (.slice V.A V.n V.c) (by rw [BlkV.cells, List.getElem?_append_right (by rw [HeadD.cells_len hV.head]; decide), HeadD.cells_len hV.head]; rfl)
  have q1 := r1 2 (.slice t.oA t.oN t.oC) rfl
  have q2 := r2 1 (.slice o.A o.n o.c) rfl
  rw [hVA, hVn] at q0
  rw [hoA, hon] at q1
  rw [hlA, hln] at q2
  exact ⟨V, t, o, vb, vo, tb, tf, ob, oo, lb, lo, V.c, t.oC, o.c, rfl, htm, hom, hod, hlA, hA, by simpa using q0, by simpa using q1, by simpa using q2, by simpa using h3, by simpa using hfz⟩
theorem ap_made (w2 w3 : World) (o3 : Only (fun i => i = w2.heap.size + 1 + 1 + 1 + 1 + 1) ((((((w2.alloc (.cells (bcs [1, 2]).toArray 5)).alloc (.cells (apI (w2.heap.size) 1).cells.toArray 60)).alloc (.cells (bcs [3]).toArray 5)).alloc (.cells (apO (w2.heap.size + 1 + 1)).cells.toArray 62)).alloc (.cells (apT (w2.heap.size) (w2.heap.size + 1) (w2.heap.size + 1 + 1) (w2.heap.size + 1 + 1 + 1) 1).cells.toArray 37)).alloc (.cells zeroB.cells.toArray 40)) w3) : ApAt w3 (w2.heap.size) (w2.heap.size + 1) (w2.heap.size + 1 + 1) (w2.heap.size + 1 + 1 + 1) (w2.heap.size + 1 + 1 + 1 + 1) 1 ∧ Below w2.heap.size w2 w3 := by
  have hb := below_alloc (below_alloc (below_alloc (below_alloc (below_alloc (below_alloc (Below.refl _ w2) (.cells (bcs [1, 2]).toArray 5)) (.cells (apI (w2.heap.size) 1).cells.toArray 60)) (.cells (bcs [3]).toArray 5)) (.cells (apO (w2.heap.size + 1 + 1)).cells.toArray 62)) (.cells (apT (w2.heap.size) (w2.heap.size + 1) (w2.heap.size + 1 + 1) (w2.heap.size + 1 + 1 + 1) 1).cells.toArray 37)) (.cells zeroB.cells.toArray 40)
  have ha : ApAt ((((((w2.alloc (.cells (bcs [1, 2]).toArray 5)).alloc (.cells (apI (w2.heap.size) 1).cells.toArray 60)).alloc (.cells (bcs [3]).toArray 5)).alloc (.cells (apO (w2.heap.size + 1 + 1)).cells.toArray 62)).alloc (.cells (apT (w2.heap.size) (w2.heap.size + 1) (w2.heap.size + 1 + 1) (w2.heap.size + 1 + 1 + 1) 1).cells.toArray 37)).alloc (.cells zeroB.cells.toArray 40)) (w2.heap.size) (w2.heap.size + 1) (w2.heap.size + 1 + 1) (w2.heap.size + 1 + 1 + 1) (w2.heap.size + 1 + 1 + 1 + 1) 1 :=
    ⟨(((((blk_at w2 5 (bcs [1, 2]) _ rfl).alloc _).alloc _).alloc _).alloc _).alloc _, ((((blk_at _ 60 (apI (w2.heap.size) 1).cells _ (by simp)).alloc _).alloc _).alloc _).alloc _,
      (((blk_at _ 5 (bcs [3]) _ (by simp)).alloc _).alloc _).alloc _, ((blk_at _ 62 (apO (w2.heap.size + 1 + 1)).cells _ (by simp)).alloc _).alloc _, (blk_at _ 37 (apT (w2.heap.size) (w2.heap.size + 1) (w2.heap.size + 1 + 1) (w2.heap.size + 1 + 1 + 1) 1).cells _ (by simp)).alloc _⟩
  exact ⟨ha.only o3 (by omega) (by omega) (by omega) (by omega) (by omega), hb.trans (o3.below (by simp; omega) fun i hi e => by omega)⟩
theorem headN_len (n : Int) (k : Nat) : (idN n k).length = 32 := sha2_len _
attribute [local go_sem ↓] loadBlk_fold loadHead_fold loadHash_fold eqlHash_fold mkHead_fold mkBlk_fold mkIn_fold mkIns_fold mkTx_fold mkTxs_fold
attribute [local go_sem] mkHead_n
set_option maxHeartbeats 8000000 in
set_option maxRecDepth 100000 in
theorem wapart_any (w : World) (n : Int) (h0 : 0 ≤ n) (h1 : n ≤ 4294967295) :
    Calls Try.prog 5 #[.int .u32 n] w fun e w' => e = .returned (.bool true) ∧ Below w.heap.size w w' := by
  have HN := hide (And.intro h0 h1)
  clear h0 h1
  go_enter Try.func5, Try.ntmps5
  go_wp2_with fail
  refine (waitAlive_any w).mono ?_
  rintro e w1 ⟨rfl, b1⟩
  have B1 := hide b1
  clear b1
  go_wp2_with fail
  go_loopw [3] (fun v ws => ∃ a : Nat, a ≤ 9 ∧ v = .int .u32 (a : Int) ∧ Apart9 n a ∧ Below w.heap.size w ws) (fun v _ => 9 - (intOf v).toNat)
  case atStart => exact ⟨0, by omega, rfl, fun k m h => absurd h (by omega), B1.out⟩
  case round =>
    obtain ⟨a, ha, rfl, hap, hb⟩ := hrel
    have HAP := hide hap
    have HB := hide hb
    have HA := hide ha
    clear hap hb
    have a0 : (0 : Int) ≤ (a : Int) := by omega
    by_cases hlt : a < 9
    · have i1 : (a : Int) ≤ 8 := by omega
      have HLT := hide hlt
      obtain ⟨wo, rfl⟩ : ∃ z, z = wr := ⟨_, rfl⟩
      clear hlt ha
      go_wp2_with fail
      go_loopw [4] (fun v ws => ∃ m : Nat, m ≤ a ∧ v = .int .u32 (m : Int) ∧ (∀ i, i < m → idN n a ≠ idN n i) ∧ Below w.heap.size w ws) (fun v _ => a - (intOf v).toNat)
      case atStart => exact ⟨0, Nat.zero_le _, rfl, fun i h => absurd h (by omega), HB.out⟩
      case round =>
        obtain ⟨m, hm, rfl, hne, hb⟩ := hrel
        have HNE := hide hne
        have HB2 := hide hb
        clear hne hb
        have m0 : (0 : Int) ≤ (m : Int) := by omega
        by_cases hml : m < a
        · have j1 : (m : Int) < (a : Int) := by omega
          have HML := hide hml
          clear hml hm
          have hmh1 := mkHead_n (nn n a) wr
          have hw1 : (n + (a : Int)) % 4294967296 = nn n a := rfl
          have hw2 : (n + (m : Int)) % 4294967296 = nn n m := rfl
          have HF1 := hide (headN_fine (nn_range n a))
          have HF2 := hide (headN_fine (nn_range n m))
          go_wp2_with fail
          refine (refBId_any wr (headN (nn n a)) HF1.out).mono ?_
          rintro e w2 ⟨rfl, b2⟩
          have B2 := hide (Below.then_ HB2.out b2)
          have hmh2 := mkHead_n (nn n m) w2
          clear b2
          obtain ⟨I1, hI1⟩ : ∃ z, z = sha2 (headN (nn n a)).bytes := ⟨_, rfl⟩
          have HI1 := hide (show idN n a = I1 from hI1.symm)
          have L1 := hide (show I1.length = 32 by rw [hI1]; exact sha2_len _)
          rw [← hI1]
          clear hI1 hmh1
          go_wp2_with fail
          refine (refBId_any w2 (headN (nn n m)) HF2.out).mono ?_
          rintro e w3 ⟨rfl, b3⟩
          have B3 := hide (Below.then_ B2.out b3)
          clear b3 hmh2 hw1 hw2
          obtain ⟨I2, hI2⟩ : ∃ z, z = sha2 (headN (nn n m)).bytes := ⟨_, rfl⟩
          have HI2 := hide (show idN n m = I2 from hI2.symm)
          have L2 := hide (show I2.length = 32 by rw [hI2]; exact sha2_len _)
          rw [← hI2]
          clear hI2
          have hq := eqlHash_run I1 I2 L1.out L2.out w3
          by_cases hII : I1 = I2
          · have hb9 : (I1 == I2) = true := by simpa using hII
            rw [hb9] at hq
            clear hII hb9
            go_wp2_with fail
            go_ret
            exact ⟨rfl, B3.out⟩
          · have hb9 : (I1 == I2) = false := by simpa using hII
            rw [hb9] at hq
            have HII := hide hII
            clear hII hb9
            go_wp2_with fail
            refine ⟨⟨m + 1, by have := HML.out; omega, by go_num, fun i hi => ?_, B3.out⟩, by have := HML.out; simp [intOf]; omega⟩
            rcases Nat.lt_succ_iff_lt_or_eq.1 hi with h9 | rfl
            · exact HNE.out i h9
            · rw [HI1.out, HI2.out]; exact HII.out
        · obtain rfl : m = a := by omega
          have j1 : ¬ (m : Int) < (m : Int) := by omega
          clear hml hm
          go_wp2_with fail
          refine ⟨⟨m + 1, by have := HLT.out; omega, by go_num, fun k i hk hi => ?_, HB2.out⟩, by have := HLT.out; simp [intOf]; omega⟩
          rcases Nat.lt_succ_iff_lt_or_eq.1 hk with h9 | rfl
          · exact HAP.out k i h9 hi
          · exact HNE.out i hi
    · obtain rfl : a = 9 := by omega
      clear hlt ha
      go_wp2_with fail
      refine (WNewD_any wr).mono ?_
      rintro e w2 ⟨g, rfl, hg, b2, hr⟩
      have B2 := hide (Below.then_ HB.out b2)
      have R2 := hide (hr (fun _ => True))
      have GL2 := hide (show w.heap.size ≤ g ∧ g < w2.heap.size from ⟨by have := HB.out.size; omega, R2.out.lt⟩)
      clear hg b2 hr
      obtain ⟨H, hH⟩ : ∃ H, H = headN n := ⟨_, rfl⟩
      have HF := hide (show H.Fine by rw [hH]; exact headN_fine HN.out)
      have HH0 := hide (show sha2 (apD H 1).head.bytes = idN n 0 by show sha2 H.bytes = _; rw [hH, idN, nn_zero HN.out])
      have hmh : ∀ w, (mkHead #[(5, .int .u32 n)]).run Try.prog w = .ok (.agg H.cells.toArray) w := fun w => by rw [hH]; exact mkHead_n n w
      clear hH
      have hmi := mkIn_lock (some ⟨w2.heap.size, 0, none⟩) 2 2 [1, 2]
      have hms := fun w1 => mkIns_run w1 (⟨zeroR, some ⟨w2.heap.size, 0, none⟩, 2, 2, [1, 2], 0⟩ : InV) zeroR_fine
      have hmt := mkTx_pair (some ⟨w2.heap.size + 1, 0, none⟩) (some ⟨w2.heap.size + 1 + 1 + 1, 0, none⟩) 1 1 1 1
      have hmts : ∀ w1, (mkTxs #[(0, .agg #[.int .u32 0, .slice (some ⟨w2.heap.size + 1, 0, none⟩) 1 1, .slice (some ⟨w2.heap.size + 1 + 1 + 1, 0, none⟩) 1 1, .int .u32 0])]).run Try.prog w1 = .ok (.slice (some ⟨w1.heap.size, 0, none⟩) 1 1) (w1.alloc (.cells (apT (w2.heap.size) (w2.heap.size + 1) (w2.heap.size + 1 + 1) (w2.heap.size + 1 + 1 + 1) 1).cells.toArray 37)) := fun w1 => mkTxs_run w1 (apT (w2.heap.size) (w2.heap.size + 1) (w2.heap.size + 1 + 1) (w2.heap.size + 1 + 1 + 1) 1)
      have hmb : ∀ w1, (mkBlk #[(0, .agg H.cells.toArray), (1, .slice (some ⟨w2.heap.size + 1 + 1 + 1 + 1, 0, none⟩) 1 1)]).run Try.prog w1 = .ok (.agg (apB H (w2.heap.size) (w2.heap.size + 1) (w2.heap.size + 1 + 1) (w2.heap.size + 1 + 1 + 1) (w2.heap.size + 1 + 1 + 1 + 1) 1).cells.toArray) w1 := mkBlk_two (apB H (w2.heap.size) (w2.heap.size + 1) (w2.heap.size + 1 + 1) (w2.heap.size + 1 + 1 + 1) (w2.heap.size + 1 + 1 + 1 + 1) 1) HF.out
      have tokA : True := trivial
      have tokB : True := trivial
      go_wp2_with (first
        | (have _t := tokA; clear _t tokA; refine wpList_alloc_agg rfl 40 rfl zeroB.cells zeroBlk_info ?_; simp only [Act.put, List.setIfInBounds_toArray, List.set_cons_zero, List.set_cons_succ, World.size_alloc])
        | (have _t := tokB; clear _t tokB; refine wpList_store_bk rfl _ _ rfl _ zeroB (apB H (w2.heap.size) (w2.heap.size + 1) (w2.heap.size + 1 + 1) (w2.heap.size + 1 + 1 + 1) (w2.heap.size + 1 + 1 + 1 + 1) 1) zeroH_fine HF.out (by rfl) (by rfl) (blk_at _ 40 zeroB.cells _ (by simp)) ?_; intro w3 o3 z3 k3; have am := ap_made w2 w3 o3; have AP3 := hide am.1; have B23 := hide am.2; have hld := loadBlk_run w3 _ 0 _ k3.whole HF.out; have K3 := hide k3; clear o3 z3 k3 am hmi hms hmt hmts hmb hmh; simp only [Act.put]))
      clear hld
      obtain ⟨gu, hgu⟩ : ∃ x, x = w2.heap.size := ⟨_, rfl⟩
      rw [← hgu] at AP3 K3 ⊢
      obtain ⟨gi, hgi⟩ : ∃ x, x = gu + 1 := ⟨_, rfl⟩
      rw [← hgi] at AP3 K3 ⊢
      obtain ⟨gl, hgl⟩ : ∃ x, x = gi + 1 := ⟨_, rfl⟩
      rw [← hgl] at AP3 K3 ⊢
      obtain ⟨go, hgo⟩ : ∃ x, x = gl + 1 := ⟨_, rfl⟩
      rw [← hgo] at AP3 K3 ⊢
      obtain ⟨gt, hgt⟩ : ∃ x, x = go + 1 := ⟨_, rfl⟩
      rw [← hgt] at AP3 K3 ⊢
      obtain ⟨gb, hgb⟩ : ∃ x, x = gt + 1 := ⟨_, rfl⟩
      rw [← hgb] at K3 ⊢
      have GG := hide (show w.heap.size ≤ g ∧ g < gu ∧ gu < gi ∧ gi < gl ∧ gl < go ∧ go < gt ∧ gt < gb ∧ w2.heap.size = gu by have := GL2.out; omega)
      have B3 := hide (Below.then_ B2.out B23.out)
      clear hgu hgi hgl hgo hgt hgb
      refine (refBBytes_any w3 (apB H gu gi gl go gt 1) (AP3.out.fine HF.out (by decide)) (apB_small H gu gi gl go gt 1)).mono ?_
      rintro e w4 hp
      obtain ⟨A7, n7, c7, rfl, t7, f7⟩ := hp.fresh
      rw [show (apB H gu gi gl go gt 1).d = apD H 1 from rfl] at t7
      have Y4 := hide t7.bys
      have FR8 := hide (show ∀ ad, A7 = some ad → gu < ad.block ∧ g < ad.block from fun ad e => by have h1 := f7 ad e; have h2 := AP3.out.un.lt; have h3 := GG.out; omega)
      have K4 := hide (K3.out.under t7.below)
      have AP4 := hide (AP3.out.under t7.below)
      have B4 := hide (Below.then_ B3.out t7.below)
      have R4 := hide ((R2.out.under (Below.then_ B23.out t7.below)).mono (Q := fun i => i = gu) fun _ _ _ => trivial)
      have hld := loadBlk_run w4 gb 0 (apB H gu gi gl go gt 1) K4.out.whole HF.out
      clear hp t7 f7
      go_wp2_with fail
      clear hld
      refine (Add_any w4 g (fun i => i = gu) [] (apB H gu gi gl go gt 1) R4.out (AP4.out.fine HF.out (by decide)) (apB_good HF.out (by decide) gu gi gl go gt) (fun i e => by have h9 : i = gu := e; have := AP4.out.un.lt; omega)).mono ?_
      rintro e w5 ⟨rfl, r5, o5⟩
      rw [show (apB H gu gi gl go gt 1).d = apD H 1 from rfl, add_first (apD H 1) n] at r5 ⊢
      have R5 := hide r5
      have AP5 := hide (show ApAt w5 gu gi gl go gt 1 by have h9 := GG.out; exact AP4.out.only o5 (by omega) (by omega) (by omega) (by omega) (by omega))
      have K5 := hide (o5.blk K4.out (by have h9 := GG.out; omega))
      have Y5 := hide (Y4.out.keep o5 (fun _ ad e h => by have h9 : ad.block = g := h; have := FR8.out ad e; omega))
      have B5 := hide (show Below w.heap.size w w5 from B4.out.trans (o5.below B4.out.size fun i hi e => by have h9 : i = g := e; have := GG.out; omega))
      clear r5 o5
      have q0 : w5.cell? ⟨gb, 68, none⟩ = some (.slice (some ⟨gt, 0, none⟩) 1 1) := by
        rw [K5.out.cell, BlkV.cells, List.getElem?_append_right (by rw [show (apB H gu gi gl go gt 1).head = H from rfl, HeadD.cells_len HF.out]; decide), show (apB H gu gi gl go gt 1).head = H from rfl, HeadD.cells_len HF.out]; rfl
      have q1 : w5.cell? ⟨gt, 1, none⟩ = some (.slice (some ⟨gi, 0, none⟩) 1 1) := AP5.out.t.c1
      have q2 : w5.cell? ⟨gi, 33, none⟩ = some (.slice (some ⟨gu, 0, none⟩) 2 2) := by rw [AP5.out.i.cell]; rfl
      have q3 : w5.cell? ⟨gu, 0, none⟩ = some (.int .u8 1) := AP5.out.un.c0
      have q4 := AP5.out.un.frozen 0
      obtain ⟨w6, hw6⟩ : ∃ z, w5.setCell ⟨gu, 0, none⟩ (.int .u8 9) = z := ⟨_, rfl⟩
      have O6 := hide (show Only (fun i => i = gu) w5 w6 by rw [← hw6]; exact Only.cell1 _ _ _ _)
      have AP6 := hide (show ApAt w6 gu gi gl go gt 9 by
        have h9 := GG.out
        exact ⟨by rw [← hw6]; exact AP5.out.un.set_ 0 (.int .u8 9), O6.out.blk AP5.out.i (by omega), O6.out.blk AP5.out.l (by omega), O6.out.blk AP5.out.o (by omega), O6.out.blk AP5.out.t (by omega)⟩)
      have K6 := hide (show Blk w6 gb 40 (apB H gu gi gl go gt 9).cells from O6.out.blk K5.out (by have h9 := GG.out; omega))
      have Y6 := hide (Y5.out.keep O6.out (fun _ ad e h => by have h9 : ad.block = gu := h; have := FR8.out ad e; omega))
      have R6 := hide (R5.out.only O6.out (fun i _ e => e) (by have h9 := GG.out; omega))
      have B6 := hide (show Below w.heap.size w w6 from B5.out.trans (O6.out.below B5.out.size fun i hi e => by have h9 : i = gu := e; have := GG.out; omega))
      go_wp2_with fail
      try rw [hw6]
      clear q0 q1 q2 q3 q4 hw6
      refine (All_any w6 g _ _ R6.out).mono ?_
      rintro e w7 ⟨A8, c8, xs, rfl, hx, hd, b7⟩
      rw [show (rowN (apD H 1) n 0).length = 1 from rfl] at hx ⊢
      obtain ⟨V, t, o, vb, vo, tb, tf, ob, oo, lb, lo, tc, oc, lc, rfl, ht, ho, hbs, hlA, rfl, q0, q1, q2, q3, q4⟩ := lock_way hx.in_ hd
      have LB := hide (show w6.heap.size ≤ lb from (hx.keep V (List.mem_singleton.2 rfl)).above (fun i hi => .inl hi) ht ho hlA hbs)
      obtain ⟨w8, hw8⟩ : ∃ z, w7.setCell ⟨lb, lo, none⟩ (.int .u8 9) = z := ⟨_, rfl⟩
      have B68 := hide (show Below w6.heap.size w6 w8 by rw [← hw8]; exact b7.setCell (p := ⟨lb, lo, none⟩) LB.out _)
      have AP8 := hide (AP6.out.under B68.out)
      have K8 := hide (K6.out.under B68.out)
      have Y8 := hide (Y6.out.below B68.out)
      have R8 := hide (R6.out.under B68.out)
      have B8 := hide (Below.then_ B6.out B68.out)
      clear hx hd b7 ht ho hbs hlA
      go_wp2_with fail
      try rw [hw8]
      clear q0 q1 q2 q3 q4 hw8
      obtain ⟨SV, hSV⟩ : ∃ S, ba (apD H 1).bytes = S := ⟨_, rfl⟩
      have HSV := hide hSV
      clear hSV
      refine wp_region_held_drew (S := fun w' => Only (fun i => i = g) w8 w') (by kernel_rfl) (Only.of_below (Below.refl _ w8).drew _) (fun hSW0 => ?_)
      obtain ⟨w8d, hwW⟩ : ∃ x, x = w8.drew := ⟨_, rfl⟩
      rw [← hwW] at hSW0 ⊢
      have BD := hide (show Below w8.heap.size w8 w8d by rw [hwW]; exact (Below.refl _ _).drew)
      clear hwW
      (refine wpAnyH_take (i := 0) (oi := ⟨some 71, .move (.tmp 5), 24, "law.go:118", #[], none⟩) (v := ?_) rfl (by kernel_rfl) (by kernel_rfl) (by kernel_rfl) (fun _ _ _ h => h) (Or.inl ⟨by rfl, fun w' hSw => ?_⟩) hSW0 ?_; rotate_left; focus (go_simp; try with_reducible rfl))
      simp only [Act.put, List.setIfInBounds_toArray, List.set_cons_zero, List.set_cons_succ]
      (refine wpAnyH_take (i := 6) (oi := ⟨some 77, .move (.tmp 7), 56, "law.go:118", #[], none⟩) (v := ?_) rfl (by kernel_rfl) (by kernel_rfl) (by kernel_rfl) (fun _ _ _ h => h) (Or.inl ⟨by rfl, fun w' hSw => ?_⟩) hSW0 ?_; rotate_left; focus (go_simp; try with_reducible rfl))
      simp only [Act.put, List.setIfInBounds_toArray, List.set_cons_zero, List.set_cons_succ]
      (refine wpAnyH_take (i := 7) (oi := ⟨some 78, .convert 56 9 (.tmp 77), 9, "law.go:118", #[⟨6, .data⟩], none⟩) (v := ?_) rfl (by kernel_rfl) (by kernel_rfl) (by kernel_rfl) (fun _ _ _ h => h) (Or.inl ⟨by rfl, fun w' hSw => ?_⟩) hSW0 ?_; rotate_left; focus (have z1 := run_str w' A7 n7 c7 _ (Y8.out.keep hSw (fun _ ad e h => by have h9 : ad.block = g := h; have h8 := FR8.out ad e; omega)); rw [HSV.out] at z1; go_simp; try with_reducible rfl))
      simp only [Act.put, List.setIfInBounds_toArray, List.set_cons_zero, List.set_cons_succ]
      refine wpAnyH_ready (rs := [1]) (by kernel_rfl) (by simp) ?_
      refine AllReadyH.cons rfl (fun K hK => ?_) AllReadyH.nil
      go_simp
      refine (All_any _ g _ _ (R8.out.under BD.out)).mono ?_
      rintro e w9 ⟨A9, c9, ys, rfl, hy, hyd, b9⟩
      have B9 := hide (Below.then_ BD.out b9)
      obtain ⟨V2, rfl⟩ := one_of (l := ys) hy.len
      have HV2 := hide (show V2.d = apD H 1 by have h9 : [V2].map BlkV.d = [apD H 1] := hyd; simpa using h9)
      obtain ⟨vb2, vo2, hA9, hrow2⟩ := hy.in_.2.2 (by show 0 < 1; decide)
      subst hA9
      have FV2 := hide (hy.fine V2 (List.mem_singleton.2 rfl))
      have GV2 := hide (hy.good V2 (List.mem_singleton.2 rfl))
      have NV2 := hide (hrow2 0 V2 rfl)
      rw [show (rowN (apD H 1) n 0).length = 1 from rfl]
      clear hy hyd b9 hrow2
      go_simp
      refine hK.out _ _ (Only.of_below B9.out _) (fun hSW1 => ?_)
      clear hK K
      (refine wpAnyH_take (i := 2) (oi := ⟨some 73, .indexAddr 26 (.tmp 72) (.const (.int .i64 0)), 0, "law.go:118", #[⟨1, .data⟩], none⟩) (v := ?_) rfl (by kernel_rfl) (by kernel_rfl) (by kernel_rfl) (fun _ _ _ h => h) (Or.inl ⟨by rfl, fun w' hSw => ?_⟩) hSW1 ?_; rotate_left; focus (go_simp; try with_reducible rfl))
      simp only [Act.put, List.setIfInBounds_toArray, List.set_cons_zero, List.set_cons_succ]
      refine wpAnyH_ready (rs := [3]) (by kernel_rfl) (by simp) ?_
      refine AllReadyH.cons rfl (fun K hK => ?_) AllReadyH.nil
      have hld2 := loadBlk_run w9 vb2 vo2 V2 (by simpa using NV2.out) FV2.out.head
      go_simp
      clear hld2
      refine hK.out _ _ (hSW1) (fun hSW2 => ?_)
      clear hK K
      refine wpAnyH_ready (rs := [4]) (by kernel_rfl) (by simp) ?_
      refine AllReadyH.cons rfl (fun K hK => ?_) AllReadyH.nil
      go_simp
      refine (refBBytes_any w9 V2 FV2.out GV2.out.small).mono ?_
      rintro e w10 hp
      obtain ⟨A10, n10, c10, rfl, t10, _⟩ := hp.fresh
      rw [HV2.out] at t10
      have Y10 := hide t10.bys
      have B10 := hide (Below.then_ B9.out t10.below)
      clear hp t10
      go_simp
      refine hK.out _ _ (Only.of_below B10.out _) (fun hSW3 => ?_)
      clear hK K
      refine wpAnyH_ready (rs := [5]) (by kernel_rfl) (by simp) ?_
      refine AllReadyH.cons rfl (fun K hK => ?_) AllReadyH.nil
      have z2 := run_str w10 A10 n10 c10 _ Y10.out
      rw [HSV.out] at z2
      go_simp
      clear z2
      refine hK.out _ _ (hSW3) (fun hSW4 => ?_)
      clear hK K
      (refine wpAnyH_take (i := 8) (oi := ⟨some 79, .binOp .neq 9 (.tmp 76) (.tmp 78) 9, 4, "law.go:118", #[⟨5, .data⟩, ⟨7, .data⟩], none⟩) (v := ?_) rfl (by kernel_rfl) (by kernel_rfl) (by kernel_rfl) (fun _ _ _ h => h) (Or.inl ⟨by rfl, fun w' hSw => ?_⟩) hSW4 ?_; rotate_left; focus (go_simp; try with_reducible rfl))
      simp only [Act.put, List.setIfInBounds_toArray, List.set_cons_zero, List.set_cons_succ]
      (refine wpAnyH_take (i := 9) (oi := ⟨some 80, .move (.tmp 79), 4, "law.go:118", #[⟨8, .data⟩, ⟨4, .chain⟩], none⟩) (v := ?_) rfl (by kernel_rfl) (by kernel_rfl) (by kernel_rfl) (fun _ _ _ h => h) (Or.inl ⟨by rfl, fun w' hSw => ?_⟩) hSW4 ?_; rotate_left; focus (go_simp; try with_reducible rfl))
      simp only [Act.put, List.setIfInBounds_toArray, List.set_cons_zero, List.set_cons_succ]
      (refine wpAnyH_take (i := 10) (oi := ⟨some 81, .move (.tmp 5), 24, "law.go:118", #[⟨9, .guard⟩], some (9, false)⟩) (v := ?_) rfl (by kernel_rfl) (by kernel_rfl) (by kernel_rfl) (fun _ _ _ h => h) (Or.inl ⟨by rfl, fun w' hSw => ?_⟩) hSW4 ?_; rotate_left; focus (go_simp; try with_reducible rfl))
      simp only [Act.put, List.setIfInBounds_toArray, List.set_cons_zero, List.set_cons_succ]
      (refine wpAnyH_take (i := 11) (oi := ⟨some 82, .load 40 (.tmp 6), 40, "law.go:118", #[⟨9, .guard⟩], some (9, false)⟩) (v := ?_) rfl (by kernel_rfl) (by kernel_rfl) (by kernel_rfl) (fun _ _ _ h => h) (Or.inl ⟨by rfl, fun w' hSw => ?_⟩) hSW4 ?_; rotate_left; focus (have hld := loadBlk_run w' gb 0 (apB H gu gi gl go gt 9) (hSw.blk K8.out (fun e => by have h9 : gb = g := e; have := GG.out; omega)).whole HF.out; go_simp; try with_reducible rfl))
      simp only [Act.put, List.setIfInBounds_toArray, List.set_cons_zero, List.set_cons_succ]
      refine wpAnyH_ready (rs := [12]) (by kernel_rfl) (by simp) ?_
      refine AllReadyH.cons rfl (fun K hK => ?_) AllReadyH.nil
      go_simp
      refine (Add_any _ g _ _ (apB H gu gi gl go gt 9) (R8.out.under B10.out) ((AP8.out.under B10.out).fine HF.out (by decide)) (apB_good HF.out (by decide) gu gi gl go gt) (fun i e => by have h9 : i = gu := e; have h8 := (AP8.out.under B10.out).un.lt; omega)).mono ?_
      rintro e w11 ⟨rfl, r11, o11⟩
      rw [show (apB H gu gi gl go gt 9).d = apD H 9 from rfl, add_same (show (apD H 9).head = (apD H 1).head from rfl)] at r11 ⊢
      have R11 := hide r11
      have O11 := hide (show Only (fun i => i = g) w8 w11 from (Only.of_below B10.out _).trans o11 (fun _ _ h => h))
      clear r11 o11
      go_simp
      refine hK.out _ _ (O11.out) (fun hSW5 => ?_)
      clear hK K
      (refine wpAnyH_take (i := 13) (oi := ⟨some 84, .pick (.tmp 80) (.const (.bool Bool.true)) (.tmp 83), 4, "law.go:118", #[⟨9, .data⟩, ⟨12, .data⟩], none⟩) (v := ?_) rfl (by kernel_rfl) (by kernel_rfl) (by kernel_rfl) (fun _ _ _ h => h) (Or.inl ⟨by rfl, fun w' hSw => ?_⟩) hSW5 ?_; rotate_left; focus (go_simp; try with_reducible rfl))
      simp only [Act.put, List.setIfInBounds_toArray, List.set_cons_zero, List.set_cons_succ]
      refine wpAnyH_done (by kernel_rfl) ?_ _
      have K11 := hide (O11.out.blk K8.out (by have h9 := GG.out; omega))
      have AP11 := hide (show ApAt w11 gu gi gl go gt 9 by have h9 := GG.out; exact AP8.out.only O11.out (by omega) (by omega) (by omega) (by omega) (by omega))
      have B11 := hide (show Below w.heap.size w w11 from B8.out.trans (O11.out.below B8.out.size fun i hi e => by have h9 : i = g := e; have := GG.out; omega))
      go_wp2_with fail
      go_loopw [9] (fun v ws => ∃ j : Nat, j ≤ 8 ∧ v = .int .u32 ((j : Int) + 1) ∧ RingIs ws g (fun i => i = gu) (ringN (apD H 1) n j) ∧ Only (fun i => i = g) w11 ws) (fun v _ => 9 - (intOf v).toNat)
      case atStart => exact ⟨0, by omega, rfl, R11.out, Only.refl _ _⟩
      case round =>
        obtain ⟨j, hj, rfl, hri, ho⟩ := hrel
        have HR := hide hri
        have HO := hide ho
        have KW := hide (ho.blk K11.out (by have h9 := GG.out; omega))
        have APW := hide (show ApAt wr gu gi gl go gt 9 by have h9 := GG.out; exact AP11.out.only ho (by omega) (by omega) (by omega) (by omega) (by omega))
        have BW := hide (show Below w.heap.size w wr from B11.out.trans (ho.below B11.out.size fun i hi e => by have h9 : i = g := e; have := GG.out; omega))
        clear hri ho
        have j0 : (0 : Int) ≤ (j : Int) := by omega
        by_cases hlt : j < 8
        · have i1 : (j : Int) + 1 ≤ 8 := by omega
          have hw : (n + ((j : Int) + 1)) % 4294967296 = nn n (j + 1) := by unfold nn; push_cast; rfl
          have HLT := hide hlt
          have HFJ := hide (headN_fine (nn_range n (j + 1)))
          obtain ⟨v, hv⟩ : ∃ v, v = nn n (j + 1) := ⟨_, rfl⟩
          have HV := hide hv
          rw [← hv] at hw HFJ
          have hmh := mkHead_n v wr
          have hmb := mkBlk_bare (headN v) HFJ.out wr
          clear hlt hj hv
          go_wp2_with fail
          clear hmh hmb hw
          refine (Add_any wr g _ _ (bareB (headN v)) HR.out (bareB_fine HFJ.out _) (bareB_good HFJ.out) (fun i e => by have h9 : i = gu := e; have := APW.out.un.lt; omega)).mono ?_
          rintro e w12 ⟨rfl, r12, o12⟩
          rw [show (bareB (headN v)).d = bareN n (j + 1) by rw [HV.out]; rfl, ringN_step HH0.out HAP.out HLT.out] at r12
          have R12 := hide r12
          have O12 := hide o12
          clear r12 o12
          go_wp2_with fail
          exact ⟨⟨j + 1, by have := HLT.out; omega, by go_num, R12.out, HO.out.trans O12.out fun _ _ h => h⟩, by have := HLT.out; simp [intOf]; omega⟩
        · obtain rfl : j = 8 := by omega
          clear hlt hj
          have hld := loadHead_run wr gb 0 H (fun j v hv => by
            rw [Nat.zero_add]
            exact (KW.out.cell j).trans ((List.getElem?_append_left (by obtain ⟨h9, _⟩ := List.getElem?_eq_some_iff.1 hv; exact h9)).trans hv)) HF.out
          go_wp2_with fail
          clear hld
          refine (refBId_any wr H HF.out).mono ?_
          rintro e w12 ⟨rfl, b12⟩
          have R12 := hide (HR.out.under b12)
          have K12 := hide (KW.out.under b12)
          have AP12 := hide (APW.out.under b12)
          have B12 := hide (Below.then_ BW.out b12)
          rw [show sha2 H.bytes = idN n 0 from HH0.out]
          obtain ⟨I0, hI0⟩ : ∃ z, z = idN n 0 := ⟨_, rfl⟩
          have HI0 := hide hI0
          have L0 := hide (show I0.length = 32 by rw [hI0]; exact sha2_len _)
          rw [← hI0]
          clear b12 hI0
          go_wp2_with fail
          refine (WHas_any w12 g _ _ I0 R12.out L0.out).mono ?_
          rintro e w13 ⟨rfl, b13⟩
          rw [HI0.out, ringN_gone HAP.out]
          have R13 := hide (R12.out.under b13)
          have K13 := hide (K12.out.under b13)
          have AP13 := hide (AP12.out.under b13)
          have B13 := hide (Below.then_ B12.out b13)
          have hld := loadBlk_run w13 gb 0 (apB H gu gi gl go gt 9) K13.out.whole HF.out
          clear b13
          go_wp2_with fail
          clear hld
          refine (Add_any w13 g _ _ (apB H gu gi gl go gt 9) R13.out (AP13.out.fine HF.out (by decide)) (apB_good HF.out (by decide) gu gi gl go gt) (fun i e => by have h9 : i = gu := e; have := AP13.out.un.lt; omega)).mono ?_
          rintro e w14 ⟨rfl, r14, o14⟩
          have hag := ringN_again (b := apD H 1) (c := apD H 9) HAP.out HH0.out
          rw [show (apB H gu gi gl go gt 9).d = apD H 9 from rfl] at r14 ⊢
          rw [hag.1]
          obtain ⟨L, hL⟩ : ∃ L, L = (addD (ringN (apD H 1) n 8) (apD H 9)).1 := ⟨_, rfl⟩
          rw [← hL] at r14 hag
          have R14 := hide r14
          have HL8 := hide hag.2
          have B14 := hide (show Below w.heap.size w w14 from B13.out.trans (o14.below B13.out.size fun i hi e => by have h9 : i = g := e; have := GG.out; omega))
          clear r14 o14 hag hL
          go_wp2_with fail
          refine (WLenD_any w14 g _ L R14.out).mono ?_
          rintro e wz ⟨rfl, hwz⟩
          rw [hwz, HL8.out]
          clear hwz
          go_wp2_with fail
          go_ret
          exact ⟨rfl, B14.out⟩
end Go.Proofs.Ytbpmcnfmgaolnaa
