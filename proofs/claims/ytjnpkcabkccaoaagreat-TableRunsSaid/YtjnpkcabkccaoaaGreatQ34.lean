/- Lemmas and walks for TableRuns, packed. -/
import Derived.Test.YtjnpkcabkccaoaaGreatQ32
import Derived.Test.YtjnpkcabkccaoaaGreatQ16
set_option maxRecDepth 100000
set_option maxHeartbeats 16000000
namespace Go.Proofs.YtjnpkcabkccaoaaGreat
open Go.RowKit
section
theorem HasPrefix_any (w : World) (A B : Option Addr) (n c m d : Nat) (key pre : List Int) (hA : Bys w A n key) (hB : Bys w B m pre) (hc : n ≤ c) (hn : n ≤ 1000000000000) (hm : m ≤ 1000000000000) :
  Calls Tryz.prog 41 #[.slice A n c, .slice B m d] w fun e w' => e = .returned (.bool (preB pre key)) ∧ w = w' := by
 have hE : preB pre key = (decide (m ≤ n) && decide (key.take m = pre)) := by rw [preB, hA.1, hB.1]
 have HE := hide hE
 by_cases hle : m ≤ n
 ·obtain ⟨A2, hs1, hs2, hBB, _⟩ := slice_head A n c m hle hc
  have HEQ := hide (BytesEqual_any w A2 B m c m d (key.take m) pre (hBB w key hA) hB)
  have i0 : (0 : Int) ≤ (m : Int) := by omega
  have i1 : (m : Int) ≤ (n : Int) := by omega
  have n9 : (n : Int) ≤ 1000000000000 := by omega
  have dl : decide (m ≤ n) = true := decide_eq_true hle
  clear hE hA hB hBB
  go_enter Tryz.func41, Tryz.ntmps41
  go_wp2_with fail
  refine HEQ.out.mono ?_
  rintro e wz ⟨rfl, rfl⟩
  go_wp2_with fail
  go_ret
  exact ⟨by rw [HE.out, dl]; rfl, rfl⟩
 ·have dl : decide (m ≤ n) = false := decide_eq_false hle
  have i1 : (n : Int) < (m : Int) := by omega
  clear hE hA hB
  go_enter Tryz.func41, Tryz.ntmps41
  go_wp2_with fail
  go_ret
  exact ⟨by rw [HE.out, dl]; rfl, rfl⟩
theorem pslice_from (A : Option Addr) (m c U : Nat) (hm : U ≤ m) (hc : m ≤ c) : ∃ A' : Option Addr, (∀ w : World, (Instr.slice 37 (.slice A m c) (some (.int .i64 (U : Int))) none none).run Tryz.prog w = .ok (.slice A' (m - U) (c - U)) w) ∧
  (∀ w : World, (Instr.sliceAt 37 (.slice A m c) (some (.int .i64 (U : Int))) none none).run Tryz.prog w = .ok (.slice A' (m - U) (c - U)) w) ∧
  (∀ (w : World) (xs : List PairV), PairsIn w A m xs → PairsIn w A' (m - U) (xs.drop U)) := by
 have hel : Tryz.prog.elem 37 = 59 := by kernel_rfl
 have hu : Tryz.prog.underlying 37 = some (.slice (Tryz.prog.elem 37)) := by rw [hel]; exact Tryz.underlying37
 have hsz : (Tryz.prog.info? 59).map (·.size) = some 3 := isPr
 have h1 : ∀ w : World, (Instr.slice 37 (.slice A m c) (some (.int .i64 (U : Int))) none none).run Tryz.prog w = .ok (.slice (if c = U then A else A.map (·.add (U * 3))) (m - U) (c - U)) w := fun w => by
  have := run_slice_l (P := Tryz.prog) w 37 A m c hu .i64 U (by omega) (by omega)
  rw [hel, run_size hsz w] at this
  rw [this]
  by_cases h : c = U
  ·simp [Result.andThen, sliced, h]
  ·simp [Result.andThen, sliced, h]
 refine ⟨if c = U then A else A.map (·.add (U * 3)), h1, fun w => ?_, fun w xs hX => ?_⟩
 ·rw [run_sliceAt_slice w _ _ _ _ _ hu]; exact h1 w
 ·have hl : (xs.drop U).length = m - U := by rw [List.length_drop, hX.1]
  rcases Nat.eq_zero_or_pos (m - U) with h0 | h0
  ·have e : xs.drop U = [] := List.eq_nil_of_length_eq_zero (by omega)
   rw [e, h0]
   exact RowsIn.nil _ _ _ _ _
  ·obtain ⟨b, off, rfl, hr⟩ := hX.2.2 (by omega)
   have e2 : (some ⟨b, off, none⟩ : Option Addr).map (fun x => x.add (U * 3)) = some ⟨b, off + U * 3, none⟩ := by simp only [Option.map_some, Addr.add_mid]
   rw [if_neg (by omega), e2]
   refine ⟨hl, fun a ha => hX.2.1 a (List.mem_of_mem_drop ha), fun _ => ⟨b, off + U * 3, rfl, fun i a ha => ?_⟩⟩
   have := hr (U + i) a (by rw [← ha, List.getElem?_drop])
   rwa [show off + (U + i) * 3 = off + U * 3 + i * 3 by omega] at this
theorem range_stop (R : List PairD) (pre : List Int) (most : Int) (j : Nat) (h1 : ∀ x ∈ R.take j, preB pre x.key = true) (hj : j ≤ R.length) (h2 : j ≤ most.toNat)
  (h3 : most ≤ j ∨ j = R.length ∨ ∃ x, R[j]? = some x ∧ preB pre x.key = false) : (R.takeWhile fun p => preB pre p.key).take most.toNat = R.take j := by
 have e : R.takeWhile (fun p => preB pre p.key) = R.take j ++ (R.drop j).takeWhile fun p => preB pre p.key := by
  conv => lhs; rw [← List.take_append_drop j R]
  rw [List.takeWhile_append_of_pos h1]
 have hl : (R.take j).length = j := by rw [List.length_take]; omega
 rw [e, List.take_append, hl, List.take_of_length_le (by omega)]
 rcases h3 with h3 | h3 | ⟨x, h3, h4⟩
 ·rw [show most.toNat - j = 0 by omega]; simp
 ·rw [List.drop_of_length_le (by omega)]; simp
 ·obtain ⟨hlt, he⟩ := List.getElem?_eq_some_iff.1 h3
  rw [List.drop_eq_getElem_cons hlt, he, List.takeWhile_cons, h4]; simp
theorem PRow.lower {base lo : Nat} {w : World} {A : Option Addr} {n c : Nat} {xs : List PairV} (h : PRow base w A n c xs) (hl : lo ≤ base) : PRow lo w A n c xs :=
 ⟨h.len, h.cap, Nat.le_trans hl h.low, by
  refine ⟨h.row.1, ?_⟩
  rcases h.row.2 with h0 | ⟨g, cap, cur, h1, h2, h3⟩
  ·exact .inl h0
  ·exact .inr ⟨g, cap, cur, h1, Nat.le_trans hl h2, h3⟩, fun x hx => (h.keep x hx).mono fun i _ hi => hi.imp (fun h9 => Nat.lt_of_lt_of_le h9 hl) id⟩
attribute [local go_sem ↓] loadPr_fold mkPrs1_fold
theorem range_from {H : Nat → Prop} (w0 w : World) (t g b : Nat) (F : Nat → Prop) (d : Dev) (T : TableD) (hT : TabW H w0 w t g b F d T) (hOk : T.Ok) (B : Option Addr) (n q : Nat) (pre : List Int) (hB : Bys w B n pre) (hq : n ≤ q) (hn : n ≤ 1000000000000)
  (C : Option Addr) (m r : Nat) (from_ : List Int) (hC : Bys w C m from_) (hr : m ≤ r) (most : Int) (hm : -9223372036854775808 ≤ most ∧ most ≤ 9223372036854775807) :
  Calls Tryz.prog 23 #[.pointer (some ⟨t, 0, none⟩), .slice B n q, .slice C m r, .int .i64 most] w (PMergePost w (rangeP T.pairs pre from_ most)) := by
 obtain ⟨A, k, c, xs, hG⟩ := hT
 have H := hide hG
 have OK := hide hOk
 have HB := hide hB
 have HC := hide hC
 have HQ := hide hq
 have HN := hide hn
 have hk : k ≤ 300000 := by
  have h7 := right_len hOk.right
  have h8 := hOk.size
  have h9 := congrArg List.length hG.data
  rw [List.length_map, hG.keep.in_.1] at h9
  omega
 have HK := hide hk
 have hcmp := hide (Compare_any w C B m r n q from_ pre hC hB)
 obtain ⟨m1, m2⟩ := hm
 obtain ⟨X, f, c', fr, hX, hfc, hsel⟩ : ∃ (X : Option Addr) (f c' : Nat) (fr : List Int), Bys w X f fr ∧ f ≤ c' ∧ ((lex from_ pre < 0 ∧ B = X ∧ n = f ∧ q = c' ∧ pre = fr) ∨ (¬ lex from_ pre < 0 ∧ C = X ∧ m = f ∧ r = c' ∧ from_ = fr)) := by
  by_cases h : lex from_ pre < 0
  ·exact ⟨B, n, q, pre, hB, hq, .inl ⟨h, rfl, rfl, rfl, rfl⟩⟩
  ·exact ⟨C, m, r, from_, hC, hr, .inr ⟨h, rfl, rfl, rfl, rfl⟩⟩
 have RQ := hide (show rangeP T.pairs pre from_ most = (((T.pairs.drop (placeP T.pairs fr)).takeWhile fun p => preB pre p.key)).take most.toNat by
  rcases hsel with ⟨h, _, _, _, h2⟩ | ⟨h, _, _, _, h2⟩
  ·rw [rangeP, if_pos h, ← h2]
  ·rw [rangeP, if_neg h, ← h2])
 have hpl := hide (place_any w0 w t g b F d T A k c xs hG hOk X f c' fr hX hfc)
 obtain ⟨P, hP⟩ : ∃ P, P = placeP T.pairs fr := ⟨_, rfl⟩
 rw [← hP] at hpl RQ
 have HPK := hide (show P ≤ k by
  have h8 := placeP_le T.pairs fr
  have h9 := congrArg List.length hG.data
  rw [List.length_map, hG.keep.in_.1] at h9
  omega)
 obtain ⟨A', hs1, hs2, hXX⟩ := pslice_from A k c P HPK.out hG.cap
 have HXX := hide hXX
 obtain ⟨R, hR⟩ : ∃ R, R = k - P := ⟨_, rfl⟩
 obtain ⟨Y, hY⟩ : ∃ Y, Y = foundP T.pairs fr := ⟨_, rfl⟩
 rw [← hY] at hpl
 have HRK := hide hR
 rw [← hR] at hs1 hs2 HXX
 have HRS := hide (show (xs.drop P).map PairV.d = T.pairs.drop P by rw [← hG.data, List.map_drop])
 obtain ⟨RL, hRL⟩ : ∃ RL, RL = T.pairs.drop P := ⟨_, rfl⟩
 rw [← hRL] at RQ HRS
 have p0 : (0 : Int) ≤ (P : Int) := by omega
 have p1 : (P : Int) ≤ (k : Int) := by have := HPK.out; omega
 have k9 : (k : Int) ≤ 300000 := by omega
 have R9 : (R : Int) ≤ 300000 := by omega
 have R0 : (0 : Int) ≤ (R : Int) := by omega
 clear hG hOk hB hC hq hr hn hk hP hR hXX hRL hY hX hfc
 go_enter Tryz.func23, Tryz.ntmps23
 go_wp2_with fail
 refine hcmp.out.mono ?_
 rintro e wz ⟨rfl, rfl⟩
 clear hcmp
 rcases hsel with ⟨hlt, rfl, rfl, rfl, rfl⟩ | ⟨hlt, rfl, rfl, rfl, rfl⟩
 all_goals
  go_wp2_with fail
  refine hpl.out.mono ?_
  rintro e w1 ⟨rfl, b1⟩
  have H1 := hide (H.out.under b1)
  have B1 := hide b1
  have XS1 := hide (HXX.out w1 xs (H.out.under b1).keep.in_)
  have PB1 := hide (HB.out.below b1)
  have SM := hide (fun (x : PairV) (hx : x ∈ xs.drop P) => right_small H.out.keep.in_ (by rw [H.out.data]; exact OK.out.right) x (List.mem_of_mem_drop hx))
  have c2 := H1.out.cells.2.2
  clear b1 hpl
  go_wp2_with fail
  clear c2
  go_loopw [9, 32] (fun v i wr => ∃ (j : Nat) (A4 : Option Addr) (c4 : Nat) (zs : List PairV), j ≤ R ∧ i = .int .i64 (j : Int) ∧ v = .slice A4 j c4 ∧ PRow w1.heap.size wr A4 j c4 zs ∧ zs.map PairV.d = RL.take j ∧ (∀ x ∈ RL.take j, preB pre x.key = true) ∧ j ≤ most.toNat ∧ Below w1.heap.size w1 wr) (fun _ i _ => R - (intOf i).toNat)
  case atStart => exact ⟨0, none, 0, [], Nat.zero_le _, rfl, rfl, PRow.nil (Nat.le_refl _), rfl, by simp, Nat.zero_le _, Below.refl _ _⟩
  case round =>
   obtain ⟨j, A4, c4, zs, hj, rfl, rfl, hrow4, hz, hall, hjm, hb⟩ := hrel
   have HB4 := hide hb
   have HZ := hide hz
   have HR4 := hide hrow4
   have HALL := hide hall
   have HJM := hide hjm
   have XR := hide (XS1.out.below' hb)
   have HRLL := hide (show RL.length = R by rw [← HRS.out, List.length_map, XS1.out.1])
   have HSTOP := hide (fun (h3 : most ≤ j ∨ j = RL.length ∨ ∃ x, RL[j]? = some x ∧ preB pre x.key = false) => RQ.out.trans (range_stop RL pre most j hall (by rw [HRLL.out]; exact hj) hjm h3))
   have j0 : (0 : Int) ≤ (j : Int) := by omega
   clear hz hrow4 hall hjm hb
   by_cases hlt2 : j < R
   ·obtain ⟨pb, off, hpa, hrow⟩ := XR.out.2.2 (by omega)
    subst hpa
    obtain ⟨x, hx⟩ : ∃ x, (xs.drop P)[j]? = some x := ⟨_, List.getElem?_eq_getElem (by rw [XR.out.1]; exact hlt2)⟩
    have XF := hide (XR.out.2.1 x (List.mem_of_getElem? hx))
    have XSM := hide (SM.out x (List.mem_of_getElem? hx))
    have hld := loadPr_run wr pb (off + j * 3) x (hrow j x hx)
    have HXL := hide (show RL[j]? = some x.d by rw [← HRS.out]; exact pmap_get hx)
    have HLT := hide hlt2
    have j1 : (j : Int) < (R : Int) := by omega
    clear hx hrow hj hlt2
    by_cases hmost : most ≤ (j : Int)
    ·have HD := hide (HSTOP.out (.inl hmost))
     have dm : decide (most ≤ (j : Int)) = true := decide_eq_true hmost
     go_wp2_with (first
      | (refine wpList_alloc_agg rfl 59 rfl zeroPr zeroPr_info ?_; simp only [pU])
      | (refine pr_store rfl _ _ rfl wr rfl (by rfl) x (by rfl) ?_; intro w5 b5 s5 k5; have B5 := hide b5; have K5 := hide k5; have y0 := k5.c0; clear b5 s5 k5 hld; simp only [Act.put]))
     go_ret
     exact ⟨A4, j, c4, zs, rfl, by rw [HD.out]; exact HZ.out, (HR4.out.under B5.out).lower B1.out.size, Below.then_ B1.out (Below.then_ HB4.out B5.out)⟩
    ·have hmost' : (j : Int) < most := by omega
     have dm : decide (most ≤ (j : Int)) = false := decide_eq_false hmost
     go_wp2_with (first
      | (refine wpList_alloc_agg rfl 59 rfl zeroPr zeroPr_info ?_; simp only [pU])
      | (refine pr_store rfl _ _ rfl wr rfl (by rfl) x (by rfl) ?_; intro w5 b5 s5 k5; have B5 := hide b5; have K5 := hide k5; have S5 := hide s5; have y0 := k5.c0; have l5 := loadPr_run w5 wr.heap.size 0 x k5.whole; clear b5 s5 k5 hld; simp only [Act.put]))
     have B15 := hide (Below.then_ HB4.out B5.out)
     refine (HasPrefix_any w5 x.kA B x.kN x.kC n q x.key pre (XF.out.key.below B5.out) (PB1.out.below B15.out) XF.out.kcap XSM.out.1 HN.out).mono ?_
     rintro e wz ⟨rfl, rfl⟩
     clear y0
     cases hp : preB pre x.key with
     | false =>
      have HD := hide (HSTOP.out (.inr (.inr ⟨x.d, HXL.out, hp⟩)))
      clear hp
      go_wp2_with fail
      go_ret
      exact ⟨A4, j, c4, zs, rfl, by rw [HD.out]; exact HZ.out, (HR4.out.under B5.out).lower B1.out.size, Below.then_ B1.out B15.out⟩
     | true =>
      have HPR := hide hp
      clear hp HSTOP
      go_wp2_with fail
      refine (copied_any w5 x (XF.out.below B5.out) XSM.out).mono ?_
      rintro e wb ⟨V, rfl, hd, hf, fk, fv, bb⟩
      have HVD := hide hd
      have BB := hide bb
      obtain ⟨wc, hwc⟩ : ∃ z, z = wb.alloc (.cells V.cells.toArray 59) := ⟨_, rfl⟩
      have hmks := mkPrs1_run wb V
      rw [← hwc] at hmks
      have Bc := hide (show Below wb.heap.size wb wc by rw [hwc]; exact below_alloc (Below.refl _ _) _)
      have NB := hide (show wc.rangeAt wb.heap.size 0 V.cells by rw [hwc]; exact (Blk.new wb 59 V.cells).whole)
      have RC := hide (((HR4.out.under B5.out).under bb).under Bc.out)
      have BC := hide (Below.then_ B15.out (Below.then_ bb Bc.out))
      have KC := hide (show KeepP wc V (fun i => i < w1.heap.size ∨ (Value.slice A4 j c4).ownBlock = some i) from KeepP.new (hf.below Bc.out) fk fv fun i hi => by
       have h7 := HR4.out.low
       have h8 := B5.out.size
       rcases hi with hi | hi
       ·omega
       ·have := (HR4.out.lt i hi).2; omega)
      have J9 := hide (show j + 1 ≤ 400000 by have := HLT.out; omega)
      clear hwc hd hf fk fv bb l5
      go_wp2_with (at_builtin; refine wpListRow rfl 51 rfl _ _ 37 rfl 59 3 56 Tryz.underlying37 pr_infoR (by decide) w1.heap.size (.slice A4 j c4) j _ (by rfl) RC.out.row RC.out.low wb.heap.size 0 1 1 V.cells (by rfl) rfl NB.out (PairV.one V) (by have := J9.out; omega) (by decide) ?_; intro A9 c9 w9 q1 q2 q3 q4; have P9 := hide (RC.out.app KC.out q1 q2 q3 q4); have O9 := hide (show Below w1.heap.size w1 w9 from BC.out.trans (q4.below BC.out.size (fun i hi e => by have := (RC.out.lt i e).1; omega))); clear q1 q2 q3 q4 hmks; simp only [pU])
      refine ⟨⟨j + 1, A9, c9, zs ++ [V], by have := HLT.out; omega, by go_num, rfl, P9.out, ?_, ?_, by omega, O9.out⟩, by have := HLT.out; simp [intOf]; omega⟩
      ·rw [List.map_append, HZ.out, List.take_add_one, HXL.out]; simp [HVD.out]
      ·intro y hy
       rw [List.take_add_one, HXL.out] at hy
       rcases List.mem_append.1 hy with hy | hy
       ·exact HALL.out y hy
       ·have h9 : y = x.d := by simpa using hy
        rw [h9]; exact HPR.out
   ·have HJ := hide (show j = R by omega)
    have HD := hide (HSTOP.out (.inr (.inl (by rw [HRLL.out]; omega))))
    have j1 : ¬ (j : Int) < (R : Int) := by omega
    clear hlt2
    go_wp2_with fail
    go_ret
    exact ⟨A4, j, c4, zs, rfl, by rw [HD.out]; exact HZ.out, HR4.out.lower B1.out.size, Below.then_ B1.out HB4.out⟩
end
end Go.Proofs.YtjnpkcabkccaoaaGreat
