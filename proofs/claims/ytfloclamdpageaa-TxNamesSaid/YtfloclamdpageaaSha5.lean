/-
  digest: the hasher's Sum.
-/
import Derived.Test.YtfloclamdpageaaSha4
namespace Go.Proofs.Ytfloclamdpageaa
open Go.RowKit

attribute [local go_sem ↓] mkK_fold mkSt_fold loadK_fold loadSt_fold mkH_fold
attribute [local go_sem] mkH_run
theorem HS.read {w0 w : World} {g : Nat} {s : St} {A : Option Addr} {n c : Nat} {rest : List Int} {many : Int} (h : HS w0 w g s A n c rest many) {w' : World} (hb : Below w.heap.size w w') :
    w'.cell? ⟨g, 8, none⟩ = some (.slice A n c) ∧ w'.cell? ⟨g, 9, none⟩ = some (.int .u64 many) ∧ w'.rangeAt g 0 (ucells s.list) ∧ Bys w' A n rest := by
  have h2 := h.under hb
  exact ⟨h2.c8, h2.c9, h2.range, h2.bys⟩
def lenV (v : Value) : Nat := match v with | .slice _ n _ => n | _ => 0
def zero32 : List Int := List.replicate 32 0
theorem zero32_info : (Try.prog.info? 44).map (·.zero) = some (some (.agg (bcs zero32).toArray)) := by kernel_rfl
theorem shr64_run (n k : Nat) (hk : k ≤ 56) (w : World) : (Op.shift .shr .u64 (n : Int) .i64 (k : Int)).run Try.prog w = .ok (.int .u64 ((n / 2 ^ k : Nat) : Int)) w := by
  unfold Op.shift
  rw [if_neg (by omega)]
  have e : min (k : Int).toNat IntKind.u64.bits = k := by simp only [IntKind.bits]; omega
  simp only [e, Sem.run_pure]
  rw [Int.fdiv_eq_ediv_of_nonneg _ (Int.le_of_lt (Int.pow_pos (by decide)))]
  push_cast
  rfl
theorem eight_take (n j : Nat) (hj : j < 8) : (Sha.eight n).take (j + 1) = (Sha.eight n).take j ++ [((n / 256 ^ (7 - j) % 256 : Nat) : Int)] := by
  rw [List.take_add_one]
  congr 1
  simp only [Sha.eight, List.getElem?_map, List.getElem?_range hj, Option.map_some, Option.toList_some]
def outAt (F : St) (j : Nat) : List Int := (F.list.take j).flatMap Sha.four ++ List.replicate (32 - 4 * j) 0
def fb (X : W32) (d : Nat) : Int := ((X.toNat / d % 256 : Nat) : Int)
theorem out_step (F : St) (j : Nat) (hj : j < 8) : (((((bcs (outAt F j)).set (4 * j) (.int .u8 (fb (F.list.getD j 0) 16777216))).set (4 * j + 1) (.int .u8 (fb (F.list.getD j 0) 65536))).set (4 * j + 2) (.int .u8 (fb (F.list.getD j 0) 256))).set (4 * j + 3) (.int .u8 (((F.list.getD j 0).toNat % 256 : Nat) : Int))) = bcs (outAt F (j + 1)) := by
  rcases j with _ | _ | _ | _ | _ | _ | _ | _ | j
  all_goals first | rfl | omega
theorem index_run (F : St) (j : Nat) (hj : j < 8) (w : World) : (Instr.index 134 (.agg (ucells F.list).toArray) (.int .i64 (j : Int))).run Try.prog w = .ok (.int .u32 (u (F.list.getD j 0))) w := by
  rcases j with _ | _ | _ | _ | _ | _ | _ | _ | j
  all_goals first | (exfalso; omega) | kernel_rfl
theorem out_zero (F : St) : outAt F 0 = zero32 := rfl
theorem out_full (F : St) : outAt F 8 = F.bytes := by rw [outAt, List.take_of_length_le (by rw [F.list_len]; exact Nat.le_refl _)]; simp [St.bytes]
theorem out_len (F : St) (j : Nat) (hj : j ≤ 8) : (outAt F j).length = 32 := by
  rcases j with _ | _ | _ | _ | _ | _ | _ | _ | _ | j
  all_goals first | rfl | omega
set_option maxHeartbeats 4000000 in
set_option maxRecDepth 100000 in
theorem HSum_any (w0 w : World) (g : Nat) (A : Option Addr) (m c : Nat) (D : List Int) (hH : HS w0 w g (Sha.pieces (D.length / 64) Sha.first D) A m c (D.drop (64 * (D.length / 64))) (D.length : Int)) (hlong : D.length ≤ 100000000) :
    Calls Try.prog 95 #[.pointer (some ⟨g, 0, none⟩)] w fun e w' => e = .returned (.agg (bcs (sha D)).toArray) ∧ Below w.heap.size w w' := by
  have HH := hide hH
  have hI := isSt
  obtain ⟨rest, hrest⟩ : ∃ rest, rest = D.drop (64 * (D.length / 64)) := ⟨_, rfl⟩
  obtain ⟨st, hst⟩ : ∃ st, st = Sha.pieces (D.length / 64) Sha.first D := ⟨_, rfl⟩
  rw [← hrest, ← hst] at HH
  have hm : m = D.length % 64 := by have := HH.out.bys.1; rw [hrest, List.length_drop] at this; omega
  have HR := hide hrest
  have HT := hide hst
  have HL := hide hlong
  have HM := hide hm
  clear hH hrest hst hlong hm
  have c8 := HH.out.c8
  have c9 := HH.out.c9
  have b0 : Below w.heap.size w ((w.alloc (.cells (bcs zero32).toArray 44)).alloc (.cells #[] 5)) := Below.then_ ((Below.refl _ w).alloc (Nat.le_refl _) _) ((Below.refl _ _).alloc (Nat.le_refl _) _)
  obtain ⟨k8, k9, kr, kB⟩ := HH.out.read b0
  have KB := hide kB
  have KR := hide (show Blk ((w.alloc (.cells (bcs zero32).toArray 44)).alloc (.cells #[] 5)) w.heap.size 44 (bcs zero32) from (Blk.new w _ _).alloc _)
  have B0 := hide b0
  have SZ := hide (show ((w.alloc (.cells (bcs zero32).toArray 44)).alloc (.cells #[] 5)).heap.size = w.heap.size + 2 by simp)
  clear kr kB b0
  go_enter Try.func95, Try.ntmps95
  go_wp2_with (first
    | (refine wpList_alloc_agg rfl 44 rfl (bcs zero32) zero32_info ?_; simp only [Act.put, List.setIfInBounds_toArray, List.set_cons_zero, List.set_cons_succ, World.size_alloc])
    | (at_builtin; refine wpList_app rfl _ _ rfl ((w.alloc (.cells (bcs zero32).toArray 44)).alloc (.cells #[] 5)) _ 0 0 [] (by rfl) (Mine.nil (Below.refl _ _) _) A m c rest (by rfl) KB.out (by have := HM.out; have := HL.out; omega) ?_; intro A1 m1 c1 w1 t1 f1; simp only [Act.put, List.setIfInBounds_toArray, List.set_cons_zero, List.set_cons_succ])
    | (at_builtin; refine wpList_app rfl _ _ rfl ((w.alloc (.cells (bcs zero32).toArray 44)).alloc (.cells #[] 5)) A1 m1 c1 ([] ++ rest) (by rfl) (t1.alloc _) (some ⟨w1.heap.size, 0, none⟩) 1 1 [128] (by rfl) (Bys.one w1 _ 128 (by decide) (by decide)) (by have := HM.out; have := HL.out; have := t1.len; have := KB.out.1; simp at *; omega) ?_; intro A2 m2 c2 w2 t2 f2; simp only [Act.put, List.setIfInBounds_toArray, List.set_cons_zero, List.set_cons_succ]))
  have T2 := hide (show Mine 5 ((w.alloc (.cells (bcs zero32).toArray 44)).alloc (.cells #[] 5)) w2 A2 m2 c2 (rest ++ [128]) from t2)
  clear t1 f1 t2 f2 c8 c9 KB
  obtain ⟨W1, hW1⟩ : ∃ W1, W1 = ((w.alloc (.cells (bcs zero32).toArray 44)).alloc (.cells #[] 5)) := ⟨_, rfl⟩
  rw [← hW1] at T2 k8 k9 KR B0 SZ
  clear hW1
  have K8 := hide k8
  have K9 := hide k9
  clear k8 k9
  have hlr : rest.length = D.length % 64 := by rw [HR.out, List.length_drop]; omega
  have HLR := hide hlr
  clear hlr
  go_loopw [3] (fun b wr => ∃ (i : Nat) (A' : Option Addr) (m' c' : Nat), i ≤ Sha.zeros D.length ∧ b = .slice A' m' c' ∧ Mine 5 W1 wr A' m' c' (rest ++ 128 :: List.replicate i 0)) (fun b _ => 200 - lenV b)
  case atStart => exact ⟨0, A2, m2, c2, Nat.zero_le _, rfl, by simpa using T2.out⟩
  case round =>
    obtain ⟨i, A3, m3, c3, hi, rfl, ht⟩ := hrel
    have hm3 : m3 = D.length % 64 + 1 + i := by
      have := ht.len
      rw [List.length_append, List.length_cons, List.length_replicate, HLR.out] at this
      omega
    have HT3 := hide ht
    have hz : Sha.zeros D.length < 64 := Sha.zeros_lt _
    have hrm : (m3 : Int).tmod 64 = ((m3 % 64 : Nat) : Int) := by rw [Int.tmod_eq_emod_of_nonneg (by omega)]; omega
    obtain ⟨R, hR⟩ : ∃ R : Int, R = ((m3 % 64 : Nat) : Int) := ⟨_, rfl⟩
    rw [← hR] at hrm
    have hre : (m3 : Int) % 64 = R := by omega
    have HM3 := hide hm3
    by_cases hlt : i < Sha.zeros D.length
    · have hne : ¬ R = 56 := by unfold Sha.zeros at hlt; omega
      have HB := Bys.one wr 5 0 (by decide) (by decide)
      have HR3 := hide hR
      clear hR ht hz
      go_wp2_with (at_builtin; refine wpList_app rfl _ _ rfl W1 A3 m3 c3 (rest ++ 128 :: List.replicate i 0) (by rfl) (HT3.out.alloc _) (some ⟨wr.heap.size, 0, none⟩) 1 1 [0] (by rfl) HB (by have := Sha.zeros_lt D.length; have := HM3.out; omega) ?_; intro A4 m4 c4 w4 t4 f4; simp only [Act.put, List.setIfInBounds_toArray, List.set_cons_zero, List.set_cons_succ])
      have hm4 : m4 = m3 + 1 := by have := t4.len; rw [List.length_append, HT3.out.len] at this; simp at this; omega
      refine ⟨⟨i + 1, A4, m4, c4, by omega, rfl, ?_⟩, by have := Sha.zeros_lt D.length; have := HM3.out; simp only [lenV]; omega⟩
      have e : rest ++ 128 :: List.replicate (i + 1) (0 : Int) = rest ++ 128 :: List.replicate i 0 ++ [0] := by rw [List.replicate_succ']; simp
      rw [e]; exact t4
    · have hne : R = 56 := by unfold Sha.zeros at hlt hi; omega
      obtain rfl : i = Sha.zeros D.length := by omega
      have hb1 : Below w.heap.size w wr := Below.trans B0.out (HT3.out.below.mono (by rw [SZ.out]; omega))
      obtain ⟨k8, k9, kr, kB⟩ := HH.out.read hb1
      have KRR := hide kr
      have KR2 := hide (KR.out.under HT3.out.below)
      have HB1 := hide hb1
      have v8 : IntKind.u64.wrap (8 * (D.length : Int)) = ((8 * D.length : Nat) : Int) := by rw [IntKind.wrap_u64]; have := HL.out; omega
      clear hm3 hR ht hz kr kB hb1
      go_wp2_with fail
      obtain ⟨N, hN⟩ : ∃ N : Nat, N = 8 * D.length := ⟨_, rfl⟩
      have hNI : 8 * (D.length : Int) = (N : Int) := by omega
      rw [hNI]
      obtain ⟨w3, hw3⟩ : ∃ w3, w3 = wr := ⟨_, rfl⟩
      rw [← hw3] at HT3 k8 k9 KRR KR2 HB1 ⊢
      have K81 := hide k8
      have HNN := hide hN
      clear hw3 k8 k9 v8 hNI hN
      obtain ⟨b3, hb3⟩ : ∃ b3, b3 = rest ++ 128 :: List.replicate (Sha.zeros D.length) (0 : Int) := ⟨_, rfl⟩
      rw [← hb3] at HT3
      have HB3 := hide hb3
      have hl3 : b3.length ≤ 200 := by have := HT3.out.len; have := HM3.out; have := Sha.zeros_lt D.length; omega
      have HL3 := hide hl3
      clear hb3 hl3 hi hlt hre hne hrm wr
      go_loopw [3, 31] (fun b i wr => ∃ (j : Nat) (A' : Option Addr) (m' c' : Nat), j ≤ 8 ∧ i = .int .i64 j ∧ b = .slice A' m' c' ∧ Mine 5 W1 wr A' m' c' (b3 ++ (Sha.eight N).take j)) (fun _ i _ => 8 - (intOf i).toNat)
      case atStart => exact ⟨0, A3, m3, c3, by omega, rfl, rfl, by simpa using HT3.out⟩
      case round =>
        obtain ⟨j, A4, m4, c4, hj, rfl, rfl, ht⟩ := hrel
        have HT4 := hide ht
        by_cases hlt : j < 8
        · obtain ⟨J, hJ⟩ : ∃ J : Int, J = (j : Int) := ⟨_, rfl⟩
          obtain ⟨J8, hJ8⟩ : ∃ J8 : Int, J8 = 8 * (j : Int) := ⟨_, rfl⟩
          obtain ⟨SH, hSH⟩ : ∃ SH : Int, SH = ((56 - 8 * j : Nat) : Int) := ⟨_, rfl⟩
          obtain ⟨V, hV⟩ : ∃ V : Int, V = ((N / 2 ^ (56 - 8 * j) : Nat) : Int) := ⟨_, rfl⟩
          have a1 : IntKind.i64.wrap (8 * J) = J8 := by rw [IntKind.wrap_i64]; omega
          have a2 : IntKind.i64.wrap (56 - J8) = SH := by rw [IntKind.wrap_i64]; omega
          have a3 : IntKind.i64.wrap (J + 1) = J + 1 := by rw [IntKind.wrap_i64]; omega
          have hsh := shr64_run N (56 - 8 * j) (by omega)
          rw [← hSH, ← hV] at hsh
          obtain ⟨B, hB⟩ : ∃ B : Int, B = V % 256 := ⟨_, rfl⟩
          have hw8 : IntKind.u8.wrap V = B := by rw [u8_wrap, hB]
          have HBY := Bys.one wr 5 B (by omega) (by omega)
          have p0 : J < 8 := by omega
          have hbv : B = ((N / 256 ^ (7 - j) % 256 : Nat) : Int) := by
            rw [hB, hV]
            have e : (256 : Nat) ^ (7 - j) = 2 ^ (56 - 8 * j) := by rw [show (256 : Nat) = 2 ^ 8 from rfl, ← Nat.pow_mul]; congr 1; omega
            rw [e]; omega
          have HBV := hide hbv
          have HJ := hide hJ
          rw [← hJ]
          clear hJ hJ8 hSH hV hB hbv ht
          go_wp2_with (at_builtin; refine wpList_app rfl _ _ rfl W1 A4 m4 c4 (b3 ++ (Sha.eight N).take j) (by rfl) (HT4.out.alloc _) (some ⟨wr.heap.size, 0, none⟩) 1 1 [B] (by rfl) HBY (by have := HT4.out.len; have := HL3.out; rw [List.length_append, List.length_take, Sha.eight_len] at *; omega) ?_; intro A5 m5 c5 w5 t5 f5; simp only [Act.put, List.setIfInBounds_toArray, List.set_cons_zero, List.set_cons_succ])
          refine ⟨⟨j + 1, A5, m5, c5, by omega, congrArg (Value.int .i64) (by have := HJ.out; omega), rfl, ?_⟩, by have := HJ.out; simp [intOf]; omega⟩
          rw [eight_take N j hlt, ← HBV.out, ← List.append_assoc]
          exact t5
        · obtain rfl : j = 8 := by omega
          have hfull : b3 ++ (Sha.eight N).take 8 = rest ++ Sha.tail D.length := by
            rw [HB3.out, List.take_of_length_le (by rw [Sha.eight_len]; exact Nat.le_refl _), Sha.tail, HNN.out, Nat.mod_eq_of_lt (by have := HL.out; omega)]
            simp
          rw [hfull] at HT4
          have hb1 : Below w.heap.size w wr := Below.trans B0.out (HT4.out.below.mono (by rw [SZ.out]; omega))
          obtain ⟨k8, k9, kr, kB⟩ := HH.out.read hb1
          have KR4 := hide (KR.out.under HT4.out.below)
          have HB4 := hide hb1
          have hld := loadSt_run wr g 0 st.list kr rfl
          obtain ⟨w4, hw4⟩ : ∃ w4, w4 = wr := ⟨_, rfl⟩
          rw [← hw4] at HT4 KR4 HB4 hld ⊢
          clear hw4 ht hfull k8 k9 kr kB K81 KRR KR2 HB1 hb1 hlt hj wr
          have B6 := hide (Blk.new w4 134 (ucells zeroSt))
          have ls : (ucells zeroSt).length = 8 := rfl
          have HV := hide Try.underlying134
          go_wp2_with (first
            | (refine wpList_alloc_agg rfl 134 rfl (ucells zeroSt) zeroSt_info ?_; simp only [Act.put, List.setIfInBounds_toArray, List.set_cons_zero, List.set_cons_succ, World.size_alloc])
            | (refine wpList_store_blk rfl 134 _ _ rfl w4.heap.size 0 134 (ucells zeroSt) (ucells st.list) (by rfl) (by rfl) B6.out (by rw [ls, ucells_st]; decide) (by rw [hI, ucells_st]) (ucells_one _) ?_; intro w5 o5 z5 b5; simp only [Act.put]))
          rw [lay_all (ucells zeroSt) _ (by rw [ls, ucells_st])] at b5
          have hb5 : Below w4.heap.size w4 w5 := Below.trans ((Below.refl _ w4).alloc (Nat.le_refl _) _) (o5.below (by simp) (fun i hi e => by have h9 : i = w4.heap.size := e; omega))
          obtain ⟨PP, hPP⟩ : ∃ PP, PP = Sha.padded D := ⟨_, rfl⟩
          have hdrop : rest ++ Sha.tail D.length = PP.drop (64 * (D.length / 64)) := by
            rw [hPP, Sha.padded, List.drop_append_of_le_length (by omega), ← HR.out]
          have hst2 : st = Sha.pieces (D.length / 64) Sha.first PP := by
            rw [HT.out, hPP, Sha.padded, Sha.pieces_front _ _ _ _ (by omega)]
          have hwhole : PP.length % 64 = 0 := by rw [hPP]; exact Sha.padded_whole D
          have hplen : PP.length ≤ 1000000000 := by rw [hPP, Sha.padded_len]; have := Sha.zeros_lt D.length; have := HL.out; omega
          rw [hdrop] at HT4
          rw [hst2] at b5
          have hB4 := HT4.out.bys
          have hC4 := HT4.out.cap
          have hl4 : 64 * (D.length / 64) + m4 = PP.length := by have := HT4.out.len; rw [List.length_drop, hPP, Sha.padded_len] at this; rw [hPP, Sha.padded_len]; omega
          have HPP := hide hPP
          have HWH := hide hwhole
          have HPL := hide hplen
          have HO5 := hide hb5
          have HB5 := hide b5
          have HB4R := hide hB4
          clear hdrop hst2 hwhole hplen hPP hb5 b5 o5 z5 hB4 hld B6
          go_loopw [3] (fun b ws => ∃ (r : Nat) (A' : Option Addr) (m' c' : Nat), b = .slice A' m' c' ∧ Bys w4 A' m' (PP.drop (64 * r)) ∧ m' ≤ c' ∧ 64 * r + m' = PP.length ∧ Blk ws w4.heap.size 134 (ucells (Sha.pieces r Sha.first PP).list) ∧ Below w4.heap.size w4 ws) (fun b _ => lenV b)
          case atStart => exact ⟨D.length / 64, A4, m4, c4, rfl, HB4R.out, hC4, hl4, HB5.out, HO5.out⟩
          case round =>
            obtain ⟨r, A6, m6, c6, rfl, hB, hc, hl, hY, ho⟩ := hrel
            have hbw := hB.below ho
            by_cases hpos : 0 < m6
            · have h64 : 64 ≤ m6 := by have := HWH.out; omega
              obtain ⟨AH, hr1, hr2, hr3, _⟩ := slice_head A6 m6 c6 64 h64 hc
              obtain ⟨AT, ht1, ht2, ht3, _⟩ := slice_from A6 m6 c6 64 h64 hc
              have hm0 : ((64 : Nat) : Int) = 64 := rfl
              rw [hm0] at hr1 hr2 ht1 ht2
              have hBT := hide (ht3 _ _ hB)
              have hp0 : (0 : Int) < (m6 : Int) := by omega
              have h640 : (64 : Int) ≤ (m6 : Int) := by omega
              obtain ⟨w7, hw7⟩ : ∃ w7, w7 = wr.drew := ⟨_, rfl⟩
              have hBH := hide (show Bys w7 AH 64 ((PP.drop (64 * r)).take 64) by rw [hw7]; exact hr3 _ _ hbw)
              have hld := loadSt_run w7 w4.heap.size 0 (Sha.pieces r Sha.first PP).list (by rw [hw7]; exact hY.whole) rfl
              have hY7 := hide (show Blk w7 w4.heap.size 134 (ucells (Sha.pieces r Sha.first PP).list) by rw [hw7]; exact hY)
              have ho7 := hide (show Below w4.heap.size w4 w7 by rw [hw7]; exact ho.drew)
              have HLL := hide hl
              have HC6 := hide hc
              clear hr3 ht3 hB hbw hY ho hl hc
              go_wp2_with fail
              refine wp_region_still_tail 3 (by kernel_rfl) (by kernel_rfl) ?_
              simp only [List.take_succ_cons, List.take_zero, List.drop_succ_cons, List.drop_zero]
              change wpStill _ _ wr.drew (fun a' => wpList _ _ _ _ a' wr.drew) _ _
              rw [← hw7]
              clear hw7
              repeat still_step
              try refine wpStill_nil ?_
              go_wp2_with fail
              refine (mix_any w7 (Sha.pieces r Sha.first PP) AH 64 c6 ((PP.drop (64 * r)).take 64) hBH.out (by omega) (by omega)).mono ?_
              rintro e w8 ⟨rfl, hb8⟩
              have hY8 := hide (hY7.out.under hb8)
              have ho8 := hide (Below.then_ ho7.out hb8)
              clear hY7 ho7 hBH hld hb8
              go_wp2_with (refine wpList_store_blk rfl 134 _ _ rfl w4.heap.size 0 134 (ucells (Sha.pieces r Sha.first PP).list) (ucells (Sha.mix (Sha.pieces r Sha.first PP) ((PP.drop (64 * r)).take 64)).list) (by rfl) (by rfl) hY8.out (by rw [ucells_st, ucells_st]; decide) (by rw [hI, ucells_st]) (ucells_one _) ?_; intro w9 o9 z9 b9; simp only [Act.put])
              rw [lay_all (ucells (Sha.pieces r Sha.first PP).list) _ (by rw [ucells_st, ucells_st])] at b9
              have e1 : Sha.mix (Sha.pieces r Sha.first PP) ((PP.drop (64 * r)).take 64) = Sha.pieces (r + 1) Sha.first PP := by rw [Sha.pieces_add r 1]; rfl
              have e2 : (PP.drop (64 * r)).drop 64 = PP.drop (64 * (r + 1)) := by rw [List.drop_drop]; rfl
              rw [e1] at b9
              rw [e2] at hBT
              have hb9 : Below w4.heap.size w4 w9 := ho8.out.trans (o9.below ho8.out.size (fun i hi e => by have h9 : i = w4.heap.size := e; omega))
              refine ⟨?_, by show m6 - 64 < m6; omega⟩
              repeat apply Exists.intro
              exact ⟨⟨r + 1, AT, m6 - 64, c6 - 64, rfl, hBT.out, by have := HC6.out; omega, by have := HLL.out; omega, b9, hb9⟩, rfl⟩
            · obtain rfl : m6 = 0 := by omega
              obtain ⟨F, hF⟩ : ∃ F, F = Sha.pieces r Sha.first PP := ⟨_, rfl⟩
              have hsha : sha D = F.bytes := by
                rw [sha, hF, ← HPP.out]
                congr 2
                omega
              rw [← hF] at hY
              have HSHA := hide hsha
              have hb1 : Below w.heap.size w wr := HB4.out.trans (ho.mono HB4.out.size)
              have HB9 := hide hb1
              have KR9 := hide (KR4.out.under ho)
              have hp0 : ¬ (0 : Int) < ((0 : Nat) : Int) := by omega
              obtain ⟨w5, hw5⟩ : ∃ w5, w5 = wr := ⟨_, rfl⟩
              rw [← hw5] at hY HB9 KR9 ⊢
              have HSZ9 := hide (show w.heap.size < w5.heap.size from KR9.out.lt)
              have hld := loadSt_run (w5.alloc (.cells (bcs zero32).toArray 44)) w4.heap.size 0 F.list (hY.alloc _).whole rfl
              have B7 := hide (Blk.new w5 44 (bcs zero32))
              have K7 := hide (KR9.out.alloc (.cells (bcs zero32).toArray 44))
              have B8 := hide (Below.trans HB9.out (((Below.refl _ w5).alloc (Nat.le_refl _) (.cells (bcs zero32).toArray 44)).mono HB9.out.size))
              clear hw5 hF hsha hb1 hB hbw hY ho hl hc hpos wr
              go_wp2_with (refine wpList_alloc_agg rfl 44 rfl (bcs zero32) zero32_info ?_; simp only [Act.put, List.setIfInBounds_toArray, List.set_cons_zero, List.set_cons_succ, World.size_alloc])
              obtain ⟨w6, hw6⟩ : ∃ w6, w6 = w5.alloc (.cells (bcs zero32).toArray 44) := ⟨_, rfl⟩
              rw [← hw6] at B7 K7 B8 ⊢
              clear hw6 hld KR9 HB9
              go_loopw [58] (fun i ws => ∃ j : Nat, j ≤ 8 ∧ i = .int .i64 j ∧ Blk ws w5.heap.size 44 (bcs (outAt F j)) ∧ Only (fun i => i = w5.heap.size) w6 ws) (fun i _ => 8 - (intOf i).toNat)
              case atStart => exact ⟨0, by omega, rfl, by rw [out_zero]; exact B7.out, Only.refl _ _⟩
              case round =>
                obtain ⟨j, hj, rfl, hY, ho⟩ := hrel
                by_cases hlt : j < 8
                · have hst4 := out_step F j hlt
                  obtain ⟨X, hX⟩ : ∃ X, X = F.list.getD j 0 := ⟨_, rfl⟩
                  have hix := index_run F j hlt
                  rw [← hX] at hix
                  rw [← hX] at hst4
                  have hcell : ∀ i, i < 32 → ∃ v, wr.cell? ⟨w5.heap.size, i, none⟩ = some v := fun i hi => by
                    rw [hY.cell]
                    exact ⟨_, List.getElem?_eq_getElem (by rw [bcs_length, out_len F j hj]; exact hi)⟩
                  obtain ⟨y0, c0⟩ := hcell (4 * j) (by omega)
                  obtain ⟨y1, c1⟩ := hcell (4 * j + 1) (by omega)
                  obtain ⟨y2, c2⟩ := hcell (4 * j + 2) (by omega)
                  obtain ⟨y3, c3⟩ := hcell (4 * j + 3) (by omega)
                  have f0 := hY.frozen (4 * j)
                  have f1 := hY.frozen (4 * j + 1)
                  have f2 := hY.frozen (4 * j + 2)
                  have f3 := hY.frozen (4 * j + 3)
                  obtain ⟨z0, hz0⟩ : ∃ z : Int, z = fb X 16777216 := ⟨_, rfl⟩
                  obtain ⟨z1, hz1⟩ : ∃ z : Int, z = fb X 65536 := ⟨_, rfl⟩
                  obtain ⟨z2, hz2⟩ : ∃ z : Int, z = fb X 256 := ⟨_, rfl⟩
                  obtain ⟨z3, hz3⟩ : ∃ z : Int, z = ((X.toNat % 256 : Nat) : Int) := ⟨_, rfl⟩
                  have q0 : IntKind.u8.wrap (u X / 16777216) = z0 := by rw [hz0, u8_wrap]; unfold u fb; omega
                  have q1 : IntKind.u8.wrap (u X / 65536) = z1 := by rw [hz1, u8_wrap]; unfold u fb; omega
                  have q2 : IntKind.u8.wrap (u X / 256) = z2 := by rw [hz2, u8_wrap]; unfold u fb; omega
                  have q3 : IntKind.u8.wrap (u X) = z3 := by rw [hz3, u8_wrap]; unfold u; omega
                  rw [← hz0, ← hz1, ← hz2, ← hz3] at hst4
                  have hY2 := hide ((((hY.set_ (4 * j) (.int .u8 z0)).set_ (4 * j + 1) (.int .u8 z1)).set_ (4 * j + 2) (.int .u8 z2)).set_ (4 * j + 3) (.int .u8 z3))
                  rw [hst4] at hY2
                  have hO2 := hide ((((ho.trans (Only.cell1 wr w5.heap.size (4 * j) (.int .u8 z0)) (fun _ _ h => h)).trans (Only.cell1 _ w5.heap.size (4 * j + 1) (.int .u8 z1)) (fun _ _ h => h)).trans (Only.cell1 _ w5.heap.size (4 * j + 2) (.int .u8 z2)) (fun _ _ h => h)).trans (Only.cell1 _ w5.heap.size (4 * j + 3) (.int .u8 z3)) (fun _ _ h => h))
                  have i0 : (0 : Int) ≤ (j : Int) := by omega
                  have i1 : (j : Int) < 8 := by omega
                  have a0 : IntKind.i64.wrap (4 * (j : Int)) = 4 * (j : Int) := by rw [IntKind.wrap_i64]; omega
                  have a1 : IntKind.i64.wrap (4 * (j : Int) + 1) = 4 * (j : Int) + 1 := by rw [IntKind.wrap_i64]; omega
                  have a2 : IntKind.i64.wrap (4 * (j : Int) + 2) = 4 * (j : Int) + 2 := by rw [IntKind.wrap_i64]; omega
                  have a3 : IntKind.i64.wrap (4 * (j : Int) + 3) = 4 * (j : Int) + 3 := by rw [IntKind.wrap_i64]; omega
                  have n0 : (4 * (j : Int)).toNat = 4 * j := by omega
                  have n1 : (4 * (j : Int) + 1).toNat = 4 * j + 1 := by omega
                  have n2 : (4 * (j : Int) + 2).toNat = 4 * j + 2 := by omega
                  have n3 : (4 * (j : Int) + 3).toNat = 4 * j + 3 := by omega
                  have p0 : (0 : Int) ≤ 4 * (j : Int) := by omega
                  have p1 : (0 : Int) ≤ 4 * (j : Int) + 1 := by omega
                  have p2 : (0 : Int) ≤ 4 * (j : Int) + 2 := by omega
                  have p3 : (0 : Int) ≤ 4 * (j : Int) + 3 := by omega
                  have r0 : 4 * (j : Int) < 32 := by omega
                  have r1 : 4 * (j : Int) + 1 < 32 := by omega
                  have r2 : 4 * (j : Int) + 2 < 32 := by omega
                  have r3 : 4 * (j : Int) + 3 < 32 := by omega
                  clear hst4 hX hcell hY ho hz0 hz1 hz2 hz3
                  go_wp2_with fail
                  exact ⟨⟨j + 1, by omega, by simp, hY2.out, hO2.out⟩, by simp [intOf]; omega⟩
                · obtain rfl : j = 8 := by omega
                  rw [out_full, ← HSHA.out] at hY
                  have lsh : (bcs (sha D)).length = 32 := by rw [bcs_length, sha_len]
                  have lz32 : (bcs zero32).length = 32 := rfl
                  have hHH := hide Try.underlying44
                  have hIH : (Try.prog.info? 44).map (·.size) = some 32 := by kernel_rfl
                  have HBW := hide (B8.out.trans (ho.below B8.out.size (fun i hi e => by have h9 : i = w5.heap.size := e; have := HSZ9.out; omega)))
                  have K9 := hide (ho.blk K7.out (by have := HSZ9.out; omega))
                  have HY := hide hY
                  clear hY ho
                  go_wp2_with (first
                    | (refine wpList_load_blk rfl 44 _ rfl w5.heap.size 0 44 (bcs (sha D)) (bcs (sha D)) _ (by rfl) HY.out (fun i v hv => by rw [Nat.zero_add]; exact hv) hHH.out rfl (by rw [hIH, lsh]) ?_; simp only [Act.put, List.setIfInBounds_toArray, List.set_cons_zero, List.set_cons_succ])
                    | (refine wpList_store_blk rfl 44 _ _ rfl w.heap.size 0 44 (bcs zero32) (bcs (sha D)) (by rfl) (by rfl) K9.out (by rw [lz32, lsh]; decide) (by rw [hIH, lsh]) (bcs_one _) ?_; intro w9 o9 z9 b9; simp only [Act.put]))
                  rw [lay_all (bcs zero32) _ (by rw [lz32, lsh])] at b9
                  refine bodyPost_ret (results_cell_blk rfl _ _ w.heap.size 44 _ _ (by rfl) b9 hHH.out rfl (by rw [hIH, lsh])) rfl ⟨rfl, ?_⟩
                  exact HBW.out.trans (o9.below HBW.out.size (fun i hi e => by have h9 : i = w.heap.size := e; omega))
end Go.Proofs.Ytfloclamdpageaa
