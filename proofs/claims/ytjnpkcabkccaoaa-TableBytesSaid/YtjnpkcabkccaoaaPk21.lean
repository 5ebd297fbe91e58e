import Derived.Test.YtjnpkcabkccaoaaPk19
/-
  table: the document's Parse.
-/
namespace Go.Proofs.Ytjnpkcabkccaoaa
open Go.RowKit

def mkSc (parts : Array (Nat × Value)) : Sem Value := Instr.build 58 parts
theorem mkSc_fold (parts : Array (Nat × Value)) : Instr.build 58 parts = mkSc parts := rfl
theorem zeroSc_info : (Try.prog.info? 58).map (·.zero) = some (some (.agg #[.slice none 0 0, .int .i64 0])) := by kernel_rfl
theorem mkSc_run (w : World) (A : Option Addr) (n c : Nat) : (mkSc #[(0, .slice A n c)]).run Try.prog w = .ok (.agg #[.slice A n c, .int .i64 0]) w := by
  have hz := zeroSc_info
  cases hq : Try.prog.info? 58 with
  | none => rw [hq] at hz; cases hz
  | some i =>
    rw [hq] at hz
    have hz' : i.zero = some (.agg #[.slice none 0 0, .int .i64 0]) := by simpa using hz
    have hs : ∀ t, t = 28 ∨ t = 3 → (Try.prog.info? t).map (·.size) = some 1 := by
      rintro t (rfl | rfl) <;> kernel_rfl
    have h28 := fun w => run_size (P := Try.prog) (hs 28 (.inl rfl)) w
    have h4 := fun w => run_size (P := Try.prog) (hs 3 (.inr rfl)) w
    unfold mkSc Instr.build
    simp only [Sem.run_bind, run_zero hq hz', Result.andThen_ok, run_underlying Try.underlying58]
    simp [h28, h4, Instr.fill, Value.cells]
attribute [local go_sem ↓] loadPr_fold mkPr_fold mkPrs1_fold mkSc_fold
set_option maxHeartbeats 8000000 in
set_option maxRecDepth 100000 in
theorem refPParse_any (w : World) (A : Option Addr) (n c : Nat) (bs : List Int) (hB : Bys w A n bs) (hc : n ≤ c) (hn : n ≤ 1000000000) :
    Calls Try.prog 68 #[.slice A n c] w (PParsePost w (parseP bs)) := by
  obtain ⟨w1, hw1⟩ : ∃ z, z = w.alloc (.cells #[.slice A n c, .int .i64 0] 58) := ⟨_, rfl⟩
  obtain ⟨g, hg⟩ : ∃ z, z = w.heap.size := ⟨_, rfl⟩
  have hz1 : w1.heap.size = w.heap.size + 1 := by rw [hw1]; simp
  have B1 := hide (show Below w.heap.size w w1 by rw [hw1]; exact below_alloc (Below.refl _ _) _)
  have K1 := hide (show Blk w1 g 58 [.slice A n c, .int .i64 0] by rw [hw1, hg]; exact Blk.new w _ _)
  have HG := hide (show w.heap.size ≤ g by omega)
  obtain ⟨h, R1⟩ : ∃ h, Hid (RdAt 58 w1 g h ⟨bs, 0⟩) := by
    rcases Nat.eq_zero_or_pos n with h0 | h0
    · exact ⟨g, hide ⟨A, n, c, K1.out, hB.below B1.out, hc, fun h9 => by omega, by omega, hn⟩⟩
    · obtain ⟨ab, ao, hA, hcell⟩ := hB.2.2 h0
      have hab : ab < w.heap.size := hB.lt h0 _ hA
      exact ⟨ab, hide ⟨A, n, c, K1.out, hB.below B1.out, hc, fun _ => ⟨fun ad e => by rw [hA] at e; injection e with e; rw [← e], by omega⟩, by omega, hn⟩⟩
  have HGL := hide R1.out.lt
  have hmk : (mkSc #[(0, .slice A n c)]).run Try.prog w = .ok (.agg #[.slice A n c, .int .i64 0]) w := mkSc_run w A n c
  have hw1' : w.alloc (.cells #[.slice A n c, .int .i64 0] 58) = w1 := hw1.symm
  have hg' : w.heap.size = g := hg.symm
  clear hw1 hg hz1 hB hc hn
  go_enter Try.func68, Try.ntmps68
  go_wp2_with fail
  clear hmk
  try rw [hw1']
  clear hw1' hg'
  refine (refcountof_any w1 g h ⟨bs, 0⟩ 1048576 R1.out (by decide)).mono ?_
  rintro e w2 ⟨rfl, hR2, o2⟩
  have e0 : (1048576 : Int).toNat = 1048576 := rfl
  rw [e0] at hR2 ⊢
  clear e0
  obtain ⟨N, hN⟩ : ∃ N, N = (Rd.count ⟨bs, 0⟩ 1048576).1 := ⟨_, rfl⟩
  obtain ⟨r0, hr0⟩ : ∃ r0, r0 = (Rd.count ⟨bs, 0⟩ 1048576).2 := ⟨_, rfl⟩
  have HNM := hide (show N ≤ 1048576 by
    rw [hN]
    unfold Rd.count
    simp only [ne_eq, not_true_eq_false, if_false]
    exact peek_most bs 1048576)
  have HP := hide (show parseP bs = doneP (Rd.pairs N r0) by rw [hN, hr0]; rfl)
  rw [← hr0] at hR2
  rw [← hN]
  have R2 := hide hR2
  have B2 := hide (show Below w.heap.size w w2 from B1.out.trans (o2.below B1.out.size (fun i hi e => by have h9 : i = g := e; have := HG.out; omega)))
  have HGL2 := hide (show g < w2.heap.size ∧ h < w2.heap.size by have := o2.size; have := HGL.out; omega)
  obtain ⟨w3, hw3⟩ : ∃ z, z = w2.alloc (.cells #[] 100) := ⟨_, rfl⟩
  have A0 := hide (show PAt 58 w2 w3 g h N r0 N r0 0 (some ⟨w2.heap.size, 0, none⟩) 0 [] from ⟨by omega, ⟨rfl, Nat.le_refl _, by rw [hw3]; simp, by rw [hw3]; exact World.ownsRow_made w2 #[] 0 (Nat.le_refl _) (by unfold maxLen; omega) rfl, by simp⟩, by rw [hw3]; exact hR2.below (below_alloc (Below.refl _ _) _), by unfold PEq; cases Rd.pairs N r0 <;> simp, by simp, by rw [hw3]; exact Only.alloc0 _ _⟩)
  have n9 : (N : Int) ≤ 1048576 := by have := HNM.out; omega
  have hw3' : w2.alloc (.cells #[] 100) = w3 := hw3.symm
  clear hN hr0 hR2 o2 R2 R1 HGL hw3
  go_wp2_with fail
  try rw [hw3']
  clear hw3'
  go_loopw [6, 7] (fun v i ws => ∃ (j M : Nat) (A' : Option Addr) (c' : Nat) (ys : List PairV) (r : Rd), i = .int .u64 (j : Int) ∧ v = .slice A' j c' ∧ PAt 58 w2 ws g h N r0 M r j A' c' ys) (fun _ i _ => N - (intOf i).toNat)
  case atStart => exact ⟨0, N, _, 0, [], r0, rfl, rfl, A0.out⟩
  case round =>
    clear A0
    obtain ⟨j, M, A4, c4, ys, r, rfl, rfl, ha⟩ := hrel
    obtain ⟨rest, err⟩ := r
    have HA := hide ha
    have BR := hide (show Below w.heap.size w wr from B2.out.trans (ha.only.below B2.out.size (fun i hi e => by have h9 : i = g := e; have := HG.out; omega)))
    have HJ := hide (show j + M = N from ha.sum)
    obtain ⟨Ar, nr, cr, hkr, hBr, _⟩ := ha.rd
    have KR := hide (show Blk wr g 58 [.slice Ar nr cr, .int .i64 err] from hkr)
    have NR := hide (show rest.length = nr from hBr.1)
    have j0 : (0 : Int) ≤ (j : Int) := by omega
    have x1 : wr.cell? ⟨g, 1, none⟩ = some (.int .i64 err) := KR.out.c1
    clear ha hkr hBr
    by_cases hgo : 0 < M ∧ err = 0
    · obtain ⟨m1, rfl⟩ := hgo
      obtain ⟨M', hM'⟩ : ∃ M', M' + 1 = M := ⟨M - 1, by omega⟩
      have hmn := HNM.out
      have hms := HJ.out
      have j1 : (j : Int) < (N : Int) := by omega
      have j2 : j < N := by omega
      have HMM := hide hM'
      have HX := HA.out
      rw [← hM'] at HX
      have HAM := hide HX
      clear hM' hmn hms HX
      go_wp2_with fail
      clear x1
      refine (reftextof_any _ g h ⟨rest, 0⟩ 200 HA.out.rd (by decide)).mono ?_
      rintro e w3 ⟨A3, m3, c3, rfl, hB3, hc3, hf3, hR3, o3⟩
      obtain ⟨key, r1, h1⟩ : ∃ key r1, Rd.text ⟨rest, 0⟩ 200 = (key, r1) := ⟨_, _, rfl⟩
      have hkl := ptext_most ⟨rest, 0⟩ 200 (by decide)
      rw [h1] at hB3 hR3 hkl
      have H1 := hide h1
      have B3 := hide hB3
      have R3 := hide hR3
      have O3 := hide o3
      have C3 := hide hc3
      have F3 := hide hf3
      have M3 := hide (show m3 ≤ 200 by have h9 := hB3.1; simp only at h9 hkl; omega)
      have hmk := mkPr_key w3 A3 m3 c3
      clear h1 hB3 hR3 o3 hc3 hf3 hkl
      simp only
      go_wp2_with (first
        | (refine wpList_alloc_agg rfl 100 rfl zeroPr zeroPr_info ?_; simp only [Act.put, sT, sZ, sS])
        | (refine pr_store rfl _ _ rfl w3 rfl (by rfl) ⟨A3, m3, c3, key, none, 0, 0, [], false⟩ (by rfl) ?_; intro w4 b4 s4 k4; have B4 := hide b4; have K4 := hide k4; have S4 := hide s4; clear b4 s4 k4 hmk; simp only [Act.put]))
      refine (reffixedof_any w4 g h r1 1 (R3.out.below B4.out)).mono ?_
      rintro e w5 ⟨rfl, hR5, o5⟩
      obtain ⟨F, r2, h2⟩ : ∃ F r2, r1.fixed 1 = (F, r2) := ⟨_, _, rfl⟩
      rw [h2] at hR5 ⊢
      simp only at hR5 ⊢
      obtain ⟨gp, hgp⟩ : ∃ z, z = w3.heap.size := ⟨_, rfl⟩
      have HGP := hide (show w2.heap.size ≤ gp ∧ wr.heap.size ≤ gp by have h7 := HAM.out.row.low; have h8 := O3.out.size; omega)
      have NGP := hide (show gp ≠ g by have := HGP.out; have := HGL2.out; omega)
      have HPP := hide (pair_parts ⟨rest, 0⟩ key r1 F r2 H1.out h2)
      rw [← hgp] at K4 S4 ⊢
      have K5 := hide (o5.blk K4.out NGP.out)
      have R5 := hide hR5
      have O5 := hide (show Only (fun i => i = g) wr w5 from ((O3.out.trans (Only.of_below B4.out (fun _ => False)) (fun _ _ h => h.elim)).trans o5 (fun _ _ h => h)))
      have Y5 := hide (show Bys w5 A3 m3 key from (B3.out.below B4.out).keep o5 (fun _ ad e hf => by have h7 := F3.out ad e; have h8 : ad.block = g := hf; have h9 := HGL2.out; have h10 := HAM.out.row.low; omega))
      have FF3 := hide (show Fr wr A3 from F3.out)
      have LT3 := hide (show 0 < m3 → ∀ ad, A3 = some ad → ad.block < gp from fun h0 ad e => by rw [hgp]; exact B3.out.lt h0 ad e)
      clear h2 hR5 o5 hgp R3 O3 B3 K4 B4 S4
      have c0 := K5.out.c0
      have c1 := K5.out.c1
      have c2 := K5.out.c2
      have f0 := K5.out.frozen 0
      have f1 := K5.out.frozen 1
      have f2 := K5.out.frozen 2
      by_cases hF0 : F = 0
      · subst hF0
        have hpr := HPP.out.2.1 rfl
        have HPR := hide hpr
        obtain ⟨W6, hW6⟩ : ∃ z, w5.setCell ⟨gp, 2, none⟩ (.bool true) = z := ⟨_, rfl⟩
        obtain ⟨V, hV⟩ : ∃ V : PairV, V = ⟨A3, m3, c3, key, none, 0, 0, [], true⟩ := ⟨_, rfl⟩
        have HV := hide hV
        have O6 := hide (show Only (fun i => i = gp) w5 W6 by rw [← hW6]; exact Only.cell1 _ _ _ _)
        have K6 := hide (show Blk W6 gp 100 V.cells by rw [← hW6, hV]; exact K5.out.set_ 2 _)
        have hld := loadPr_run W6 gp 0 V K6.out.whole
        obtain ⟨W7, hW7⟩ : ∃ z, z = W6.alloc (.cells V.cells.toArray 100) := ⟨_, rfl⟩
        have hmk := mkPrs1_run W6 V
        rw [← hW7] at hmk
        have B7 := hide (show Below W6.heap.size W6 W7 by rw [hW7]; exact below_alloc (Below.refl _ _) _)
        have N7 := hide (show W7.rangeAt W6.heap.size 0 V.cells by rw [hW7]; exact (Blk.new W6 100 V.cells).whole)
        have O7 := hide (show Only (fun i => i = g) wr W7 from ((O5.out.trans O6.out (fun i hi e => by have h9 : i = gp := e; have := HGP.out; omega)).trans (Only.of_below B7.out (fun _ => False)) (fun _ _ h => h.elim)))
        have R7 := hide (show RdAt 58 W7 g h r2 from (R5.out.keep O6.out (fun e => NGP.out e.symm) (fun e => by have h9 : h = gp := e; have := HGP.out; have := HGL2.out; omega)).below B7.out)
        have V7 := hide (show V.Fine W7 by
          rw [hV]
          exact ⟨(Y5.out.keep O6.out (fun hpos ad e hf => by have h7 := LT3.out hpos ad e; have h8 : ad.block = gp := hf; omega)).below B7.out, C3.out, Bys.nil _ _, Nat.le_refl _⟩)
        have VK := hide (show Fr wr V.kA ∧ Fr wr V.vA by rw [hV]; exact ⟨FF3.out, Fr.none _⟩)
        have VS := hide (show V.kN ≤ 200 ∧ V.vN ≤ 20000 by rw [hV]; exact ⟨M3.out, Nat.zero_le _⟩)
        have VP := hide (show Rd.pair ⟨rest, 0⟩ = some (V.d, r2) by rw [hV]; exact HPR.out)
        have RC := hide (HAM.out.row.step O7.out (fun i _ e => by have h9 : i = g := e; have := HGL2.out; omega))
        have J9 := hide (show j + 1 ≤ 2000000 by have := HJ.out; have := HNM.out; omega)
        clear hV hW7 hpr c0 c1 f0 f1
        go_wp2_with (at_builtin; refine wpListRow rfl 46 rfl _ _ 94 rfl 100 3 56 Try.underlying94 pr_infoR (by decide) w2.heap.size (.slice A4 j c4) j _ (by rfl) RC.out.row RC.out.low W6.heap.size 0 1 1 V.cells (by rfl) rfl N7.out (PairV.one V) (by have := J9.out; omega) (by decide) ?_; intro A9 c9 w9 q1 q2 q3 q4; have P9 := hide (HAM.out.next rfl VP.out V7.out VK.out.1 VK.out.2 VS.out O7.out R7.out HGL2.out.1 HGL2.out.2 q1 q2 q3 q4); clear q1 q2 q3 q4; simp only [Act.put, sT, sZ, sS])
        exact ⟨⟨j + 1, M', A9, c9, ys ++ [V], _, by go_num, rfl, P9.out⟩, by have := HMM.out; have := HJ.out; simp [intOf]; omega⟩
      · by_cases hF1 : F = 1
        · subst hF1
          have HP1 := hide (HPP.out.2.2 rfl)
          obtain ⟨w5s, hw5s⟩ : ∃ z, w5.setCell ⟨gp, 2, none⟩ (.bool false) = z := ⟨_, rfl⟩
          have O5s := hide (show Only (fun i => i = gp) w5 w5s by rw [← hw5s]; exact Only.cell1 _ _ _ _)
          have K5s := hide (show Blk w5s gp 100 [.slice A3 m3 c3, .slice none 0 0, .bool false] by rw [← hw5s]; exact K5.out.set_ 2 _)
          have R5s := hide (R5.out.keep O5s.out (fun e => NGP.out e.symm) (fun e => by have h9 : h = gp := e; have := HGP.out; have := HGL2.out; omega))
          have Y5s := hide (show Bys w5s A3 m3 key from Y5.out.keep O5s.out (fun hpos ad e hf => by have h7 := LT3.out hpos ad e; have h8 : ad.block = gp := hf; omega))
          have OO5 := hide (show Only (fun i => i = g) wr w5s from O5.out.trans O5s.out (fun i hi e => by have h9 : i = gp := e; have := HGP.out; omega))
          go_wp2_with fail
          clear hw5s
          refine (reftextof_any w5s g h r2 20000 R5s.out (by decide)).mono ?_
          rintro e w6 ⟨A6, m6, c6, rfl, hB6, hc6, hf6, hR6, o6⟩
          obtain ⟨v, r3, h3⟩ : ∃ v r3, r2.text 20000 = (v, r3) := ⟨_, _, rfl⟩
          have hvl := ptext_most r2 20000 (by decide)
          rw [h3] at hB6 hR6 hvl
          have HPR := hide (HP1.out v r3 h3)
          have M6 := hide (show m6 ≤ 20000 by have h9 := hB6.1; simp only at h9 hvl; omega)
          have C6 := hide hc6
          have F6 := hide hf6
          have B6 := hide hB6
          have K6a := hide (o6.blk K5s.out NGP.out)
          have LT6 := hide (show 0 < m6 → ∀ ad, A6 = some ad → ad.block ≠ gp from fun _ ad e => by have h7 := hf6 ad e; have h8 := K5s.out.lt; omega)
          have Y6 := hide (show Bys w6 A3 m3 key from Y5s.out.keep o6 (fun _ ad e hf => by have h7 := FF3.out ad e; have h8 : ad.block = g := hf; have h9 := HGL2.out; have h10 := HAM.out.row.low; omega))
          have O6a := hide (OO5.out.trans o6 (fun _ _ h => h))
          have R6a := hide hR6
          have FR6 := hide (show Fr wr A6 from fun ad e => Nat.le_trans OO5.out.size (hf6 ad e))
          clear hB6 hc6 hf6 hR6 o6 h3 hvl c0 c1 c2 f0 f1 f2
          have c0 := K6a.out.c0
          have c1 := K6a.out.c1
          have f0 := K6a.out.frozen 0
          have f1 := K6a.out.frozen 1
          have hpr := True.intro
          obtain ⟨W6, hW6⟩ : ∃ z, w6.setCell ⟨gp, 1, none⟩ (.slice A6 m6 c6) = z := ⟨_, rfl⟩
          obtain ⟨V, hV⟩ : ∃ V : PairV, V = ⟨A3, m3, c3, key, A6, m6, c6, v, false⟩ := ⟨_, rfl⟩
          have HV := hide hV
          have O6 := hide (show Only (fun i => i = gp) w6 W6 by rw [← hW6]; exact Only.cell1 _ _ _ _)
          have K6 := hide (show Blk W6 gp 100 V.cells by rw [← hW6, hV]; exact K6a.out.set_ 1 _)
          have hld := loadPr_run W6 gp 0 V K6.out.whole
          obtain ⟨W7, hW7⟩ : ∃ z, z = W6.alloc (.cells V.cells.toArray 100) := ⟨_, rfl⟩
          have hmk := mkPrs1_run W6 V
          rw [← hW7] at hmk
          have B7 := hide (show Below W6.heap.size W6 W7 by rw [hW7]; exact below_alloc (Below.refl _ _) _)
          have N7 := hide (show W7.rangeAt W6.heap.size 0 V.cells by rw [hW7]; exact (Blk.new W6 100 V.cells).whole)
          have O7 := hide (show Only (fun i => i = g) wr W7 from ((O6a.out.trans O6.out (fun i hi e => by have h9 : i = gp := e; have := HGP.out; omega)).trans (Only.of_below B7.out (fun _ => False)) (fun _ _ h => h.elim)))
          have R7 := hide (show RdAt 58 W7 g h r3 from (R6a.out.keep O6.out (fun e => NGP.out e.symm) (fun e => by have h9 : h = gp := e; have := HGP.out; have := HGL2.out; omega)).below B7.out)
          have V7 := hide (show V.Fine W7 by
            rw [hV]
            exact ⟨(Y6.out.keep O6.out (fun hpos ad e hf => by have h7 := LT3.out hpos ad e; have h8 : ad.block = gp := hf; omega)).below B7.out, C3.out, (B6.out.keep O6.out (fun hpos ad e hf => LT6.out hpos ad e hf)).below B7.out, C6.out⟩)
          have VK := hide (show Fr wr V.kA ∧ Fr wr V.vA by rw [hV]; exact ⟨FF3.out, FR6.out⟩)
          have VS := hide (show V.kN ≤ 200 ∧ V.vN ≤ 20000 by rw [hV]; exact ⟨M3.out, M6.out⟩)
          have VP := hide (show Rd.pair ⟨rest, 0⟩ = some (V.d, r3) by rw [hV]; exact HPR.out)
          have RC := hide (HAM.out.row.step O7.out (fun i _ e => by have h9 : i = g := e; have := HGL2.out; omega))
          have J9 := hide (show j + 1 ≤ 2000000 by have := HJ.out; have := HNM.out; omega)
          clear hV hW7 hpr c0 f0
          go_wp2_with (at_builtin; refine wpListRow rfl 46 rfl _ _ 94 rfl 100 3 56 Try.underlying94 pr_infoR (by decide) w2.heap.size (.slice A4 j c4) j _ (by rfl) RC.out.row RC.out.low W6.heap.size 0 1 1 V.cells (by rfl) rfl N7.out (PairV.one V) (by have := J9.out; omega) (by decide) ?_; intro A9 c9 w9 q1 q2 q3 q4; have P9 := hide (HAM.out.next rfl VP.out V7.out VK.out.1 VK.out.2 VS.out O7.out R7.out HGL2.out.1 HGL2.out.2 q1 q2 q3 q4); clear q1 q2 q3 q4; simp only [Act.put, sT, sZ, sS])
          exact ⟨⟨j + 1, M', A9, c9, ys ++ [V], _, by go_num, rfl, P9.out⟩, by have := HMM.out; have := HJ.out; simp [intOf]; omega⟩
        · have hpn := HPP.out.1 (by omega)
          have HPN := hide (HP.out.trans (show doneP (Rd.pairs N r0) = none by rw [HAM.out.eq.none rfl hpn]; rfl))
          have e0 : ((F : Int) == 0) = false := by simp; omega
          have e1 : ((F : Int) == 1) = false := by simp; omega
          have BW := hide (show Below w.heap.size w w5 from BR.out.trans (O5.out.below BR.out.size (fun i hi e => by have h9 : i = g := e; have := HG.out; omega)))
          clear hpn
          go_wp2_with fail
          go_ret2
          exact ⟨BW.out, .inl ⟨HPN.out, rfl⟩⟩
    · have HOV := hide (HP.out.trans (by rw [HA.out.eq.over (by
          rcases Nat.eq_zero_or_pos M with h9 | h9
          · exact .inl h9
          · exact .inr (fun e => hgo ⟨h9, e⟩))]))
      have hbt := hide (refRight_any wr A4 j c4 ys HA.out.row.in_ (by have := HJ.out; have := HNM.out; omega) (fun p hp => by have := HA.out.small p hp; exact ⟨by omega, by omega⟩))
      have x0 : wr.cell? ⟨g, 0, none⟩ = some (.slice Ar nr cr) := KR.out.c0
      by_cases he : err = 0
      · subst he
        obtain rfl : M = 0 := by
          rcases Nat.eq_zero_or_pos M with h9 | h9
          · exact h9
          · exact absurd ⟨h9, rfl⟩ hgo
        have j1 : ¬ (j : Int) < (N : Int) := by have := HJ.out; omega
        have j2 : ¬ j < N := by have := HJ.out; omega
        clear hgo
        by_cases hl : 0 < nr
        · have HD := hide (HOV.out.trans (show doneP (some (ys.map PairV.d, ⟨rest, 0⟩)) = none by rw [doneP, if_pos (.inr (.inl (by show 0 < rest.length; rw [NR.out]; exact hl)))]))
          clear HOV
          go_wp2_with fail
          go_ret2
          exact ⟨BR.out, .inl ⟨HD.out, rfl⟩⟩
        · have hl0 : nr = 0 := by omega
          subst hl0
          clear hl
          cases hr : rightB (ys.map PairV.d) with
          | false =>
            have HD := hide (HOV.out.trans (show doneP (some (ys.map PairV.d, ⟨rest, 0⟩)) = none by rw [doneP, if_pos (.inr (.inr hr))]))
            rw [hr] at hbt
            clear HOV hr
            go_wp2_with fail
            refine hbt.out.mono ?_
            rintro e w3 ⟨rfl, b3⟩
            have B3 := hide b3
            clear b3
            go_wp2_with fail
            go_ret2
            exact ⟨Below.then_ BR.out B3.out, .inl ⟨HD.out, rfl⟩⟩
          | true =>
            have HD := hide (HOV.out.trans (show doneP (some (ys.map PairV.d, ⟨rest, 0⟩)) = some (ys.map PairV.d) by
              rw [doneP, if_neg]
              rintro (h9 | h9 | h9)
              · exact h9 rfl
              · have h8 : 0 < rest.length := h9
                rw [NR.out] at h8
                omega
              · rw [hr] at h9; cases h9))
            rw [hr] at hbt
            clear HOV hr
            go_wp2_with fail
            refine hbt.out.mono ?_
            rintro e w3 ⟨rfl, b3⟩
            have B3 := hide b3
            clear b3
            go_wp2_with fail
            go_ret2
            refine ⟨Below.then_ BR.out B3.out, .inr ⟨A4, j, c4, ys, HD.out, rfl, HA.out.row.cap, ?_, by have := HJ.out; have := HNM.out; omega⟩⟩
            exact (HA.out.row.under B3.out).stay.mono fun i _ hi => by have := B2.out.size; show i < w2.heap.size; omega
      · have HD := hide (HOV.out.trans (show doneP (some (ys.map PairV.d, ⟨rest, err⟩)) = none by rw [doneP, if_pos (.inl he)]))
        have e1 : (err == 0) = false := by simpa using he
        have e2 : (err != 0) = true := by simpa using he
        clear HOV hgo he
        by_cases hM : j < N
        · have m1 : (j : Int) < (N : Int) := by omega
          go_wp2_with fail
          go_ret2
          exact ⟨BR.out, .inl ⟨HD.out, rfl⟩⟩
        · have m1 : ¬ (j : Int) < (N : Int) := by omega
          go_wp2_with fail
          go_ret2
          exact ⟨BR.out, .inl ⟨HD.out, rfl⟩⟩
end Go.Proofs.Ytjnpkcabkccaoaa
/-
  table: the document's Bytes.
-/
namespace Go.Proofs.Ytjnpkcabkccaoaa
open Go.RowKit

/-- Bytes of one's own, apart from block v. -/
def MineQ (w0 w : World) (A : Option Addr) (n c : Nat) (bs : List Int) (v : Nat) : Prop :=
  Below w0.heap.size w0 w ∧ n = bs.length ∧ ∃ G, Tail w 5 (.slice A n c) bs G ∧ (∀ i, G i → w0.heap.size ≤ i) ∧ ¬ G v
theorem MineQ.mine {w0 w : World} {A : Option Addr} {n c : Nat} {bs : List Int} {v : Nat} (h : MineQ w0 w A n c bs v) : Mine 5 w0 w A n c bs := by
  obtain ⟨h0, h1, G, h2, h3, _⟩ := h
  exact ⟨h0, h1, G, h2, h3⟩
theorem MineQ.of {w0 wo w : World} {A : Option Addr} {n c : Nat} {bs : List Int} {v : Nat} (h : Mine 5 w0 wo A n c bs) (hv : wo.heap.size ≤ v) (hb : Below wo.heap.size wo w) : MineQ w0 w A n c bs v := by
  obtain ⟨h0, h1, G, h2, h3⟩ := h
  exact ⟨Below.then_ h0 hb, h1, G, h2.below hb, h3, fun e => by have := h2.lt v e; omega⟩
theorem MineQ.under {w0 w w' : World} {A : Option Addr} {n c : Nat} {bs : List Int} {v : Nat} (h : MineQ w0 w A n c bs v) (hb : Below w.heap.size w w') : MineQ w0 w' A n c bs v := by
  obtain ⟨h0, h1, G, h2, h3, h4⟩ := h
  exact ⟨Below.then_ h0 hb, h1, G, h2.below hb, h3, h4⟩
theorem wpList_appQ {w : World} {ops : Array Oper} {rest : List Oper} {o : Oper} {a : Act} {Q : Exit → Act → World → Prop} (hgd : o.guard = none) (s x : Operand)
    (ho : o.op = .call { callee := .builtin .append, args := #[s, x], argTypes := #[28, 28] })
    (w0 : World) (v : Nat) (A : Option Addr) (n c : Nat) (bs : List Int) (hs : a.eval s = .slice A n c) (h : MineQ w0 w A n c bs v) (hv : v < w.heap.size) (B : Option Addr) (m c' : Nat) (cs : List Int) (hx : a.eval x = .slice B m c') (hB : Bys w B m cs) (hlen : n + m ≤ 140737488355328)
    (hK : ∀ A' n' c' w', MineQ w0 w' A' n' c' (bs ++ cs) v → Only (fun i => i ≠ v) w w' → wpList Try.prog ops Q rest (a.put o.dst (.slice A' n' c')) w') : wpList Try.prog ops Q (o :: rest) a w := by
  obtain ⟨i, z, hi, hz, hs1, hby, hzs⟩ := u8_info
  obtain ⟨h0, rfl, G, h1, h2, h3⟩ := h
  refine wpList_append_tail hgd s x 28 ho 5 i z Try.underlying28 hi hz hs1 hby hzs _ bs G hs h1 B m c' cs hx hB hlen fun A' c2 G' w' t' o' g' k' => ?_
  have hG : ∀ i, G' i → w0.heap.size ≤ i := fun i hi => by
    rcases g' i hi with h | h
    · exact h2 i h
    · exact Nat.le_trans h0.size h
  exact hK A' _ c2 w' ⟨h0.trans (o'.below h0.size (fun i hi hg => by have := h2 i hg; omega)), by rw [List.length_append, hB.1], G', t', hG, fun e => by
    rcases g' v e with h | h
    · exact h3 h
    · omega⟩ (o'.mono (fun i _ hg e => h3 (by rw [← e]; exact hg)))
attribute [local go_sem ↓] loadPr_fold
set_option maxHeartbeats 8000000 in
set_option maxRecDepth 100000 in
theorem refPBytes_any (w : World) (A : Option Addr) (n c : Nat) (xs : List PairV) (hX : PairsIn w A n xs) (hn : n ≤ 10000000) (hm : ∀ p ∈ xs, SmallP p) (hs : psize (xs.map PairV.d) ≤ 100000000) :
    Calls Try.prog 67 #[.slice A n c] w fun e w' => ∃ (A' : Option Addr) (m c' : Nat), e = .returned (.tuple #[.slice A' m c', .int .i64 (tbytes (xs.map PairV.d)).2]) ∧ Mine 5 w w' A' m c' (tbytes (xs.map PairV.d)).1 := by
  have HX := hide hX
  have n9 : (n : Int) ≤ 10000000 := by omega
  obtain ⟨L, hL⟩ : ∃ L, L = xs.map PairV.d := ⟨_, rfl⟩
  have HL := hide hL
  have HRA := hide (refRight_any w A n c xs hX (by omega) hm)
  rw [← hL] at HRA hs ⊢
  have HLN := hide (show L.length = n by rw [hL, List.length_map, hX.1])
  have HLEN := hide (fun j : Nat => (by
    have h1 := pflat_take L j
    have h2 := flat_len L
    have h3 := (cnt_length L.length).2
    have h4 := HLN.out
    rw [List.length_append]
    omega : (cnt L.length ++ (L.take j).flatMap PairD.bytes).length ≤ 300000010))
  clear hX hn hs hm hL
  cases hr : rightB L with
  | false =>
    have HE := hide (show tbytes L = ([], 151) by rw [tbytes, hr]; rfl)
    rw [hr] at HRA
    clear hr
    go_enter Try.func67, Try.ntmps67
    go_wp2_with fail
    refine HRA.out.mono ?_
    rintro e w1 ⟨rfl, b1⟩
    have B1 := hide b1
    clear b1
    go_wp2_with fail
    go_ret2
    rw [HE.out]
    exact ⟨none, 0, 0, rfl, Mine.nil B1.out none⟩
  | true =>
    have HE := hide (show tbytes L = (bytesP L, 0) by rw [tbytes, hr]; rfl)
    have HOK := hide (right_ok hr)
    rw [hr] at HRA
    clear hr
    go_enter Try.func67, Try.ntmps67
    go_wp2_with fail
    refine HRA.out.mono ?_
    rintro e w1 ⟨rfl, b1⟩
    have B1 := hide b1
    have n8 : (0 : Int) ≤ (n : Int) := by omega
    have hw : IntKind.u64.wrap (n : Int) = (n : Int) := by rw [IntKind.wrap_u64]; omega
    clear b1 HRA
    go_wp2_with fail
    refine (refcount_any w w1 (n : Int) B1.out n8 (by omega)).mono ?_
    rintro e w2 hp
    obtain ⟨A2, n2, c2, rfl, t2, _⟩ := hp.fresh
    have T2 := hide t2
    have B2 := hide t2.below
    clear hp t2
    go_wp2_with fail
    go_loopw [4, 16] (fun b i wr => ∃ (j : Nat) (A' : Option Addr) (n' c' : Nat), j ≤ n ∧ i = .int .i64 (j : Int) ∧ b = .slice A' n' c' ∧ Mine 5 w wr A' n' c' (cnt L.length ++ (L.take j).flatMap PairD.bytes)) (fun _ i _ => n - (intOf i).toNat)
    case atStart => exact ⟨0, A2, n2, c2, by omega, rfl, rfl, by have := T2.out; rw [HLN.out]; simpa using this⟩
    case round =>
      obtain ⟨j, A4, n4, c4, hj, rfl, rfl, ht⟩ := hrel
      have HT := hide ht
      have XR := hide (HX.out.below' ht.below)
      have HN4 := hide (show n4 ≤ 300000010 by rw [← ht.len]; exact HLEN.out j)
      by_cases hlt : j < n
      · obtain ⟨pb, off, hpa, hrow⟩ := XR.out.2.2 (by omega)
        subst hpa
        obtain ⟨x, hx⟩ : ∃ x, xs[j]? = some x := ⟨_, List.getElem?_eq_getElem (by rw [XR.out.1]; exact hlt)⟩
        have XF := hide (HX.out.2.1 x (List.mem_of_getElem? hx))
        have hld := loadPr_run wr pb (off + j * 3) x (hrow j x hx)
        have HLT := hide hlt
        have HXL := hide (show L[j]? = some x.d by rw [HL.out]; exact pmap_get hx)
        have HXO := hide ((okB_iff _).1 (HOK.out x.d (List.mem_of_getElem? HXL.out)))
        have HKN := hide (show x.kN ≤ 200 ∧ x.vN ≤ 20000 by have h1 := HXO.out.2.1; have h2 := HXO.out.2.2.1; have h3 := XF.out.key.1; have h4 := XF.out.value.1; simp only [PairV.d] at h1 h2; omega)
        have i0 : (0 : Int) ≤ (j : Int) := by omega
        have i1 : (j : Int) < (n : Int) := by omega
        have HST := hide (pflat_step HXL.out)
        clear ht hx hlt hrow hj
        have tokA : True := trivial
        have tokB : True := trivial
        go_wp2_with (first
          | (have _t := tokA; clear _t tokA; refine wpList_alloc_agg rfl 100 rfl zeroPr zeroPr_info ?_; simp only [Act.put, sT, sZ, sS])
          | (have _t := tokB; clear _t tokB; refine pr_store rfl _ _ rfl wr rfl (by rfl) x (by rfl) ?_; intro w5 b5 s5 k5; have B5 := hide b5; have K5 := hide k5; have y0 := k5.c0; have S5 := hide s5; clear b5 s5 k5 hld; simp only [Act.put]))
        obtain ⟨gp, hgp⟩ : ∃ z, z = wr.heap.size := ⟨_, rfl⟩
        have HG := hide (show wr.heap.size ≤ gp by omega)
        rw [← hgp] at K5 y0 ⊢
        clear hgp y0
        refine (reftext_any w5 w5 x.kA x.kN x.kC x.key (Below.refl _ _) (XF.out.key.below (Below.then_ HT.out.below B5.out)) (by have := HKN.out; omega)).mono ?_
        rintro e w6 hp
        obtain ⟨A6, n6, c6, rfl, t6, _⟩ := hp.fresh
        have T6 := hide t6
        have K6 := hide (K5.out.under t6.below)
        have Q6 := hide (MineQ.of HT.out HG.out (Below.then_ B5.out t6.below))
        have HN6 := hide (show n6 ≤ 400 by
          have h1 := t6.len
          have h2 := (cnt_length x.key.length).2
          have h3 := XF.out.key.1
          have h4 := HKN.out
          simp only [List.length_append, txt] at h1
          omega)
        clear hp t6
        have tokC : True := trivial
        have tokD : True := trivial
        cases hg : x.gone with
        | true =>
          have HGN := hide hg
          clear hg
          go_wp2_with (first
            | (have _t := tokC; clear _t tokC; at_builtin; refine wpList_appQ rfl _ _ rfl w gp A4 n4 c4 (cnt L.length ++ (L.take j).flatMap PairD.bytes) (by rfl) Q6.out K6.out.lt A6 n6 c6 (txt x.key) (by rfl) T6.out.bys (by have := HN6.out; have := HN4.out; omega) ?_; intro A7 n7 c7 w7 q7 o7; have Q7 := hide q7; have K7 := hide (o7.blk K6.out (fun e => e rfl)); have y2 := K7.out.c2; rw [HGN.out] at y2; have HN7 := hide (show n7 ≤ 300000500 by have h1 := q7.2.1; have h2 := Q6.out.2.1; have h3 := T6.out.len; have h4 := HN6.out; have h5 := HN4.out; rw [List.length_append] at h1; omega); clear q7 o7; simp only [Act.put, sT, sZ, sS])
            | (have _t := tokD; clear _t tokD; at_builtin; refine wpList_appQ rfl _ _ rfl w gp A7 n7 c7 _ (by rfl) (Q7.out.under (below_alloc (Below.refl _ _) _)) (by have h9 := K7.out.lt; simp; omega) (some ⟨w7.heap.size, 0, none⟩) 1 1 [0] (by rfl) (Bys.one w7 5 0 (by decide) (by decide)) (by have := HN7.out; omega) ?_; intro A8 n8 c8 w8 q8 o8; have Q8 := hide q8; clear q8 o8 y2; simp only [Act.put, sT, sZ, sS]))
          refine ⟨⟨j + 1, A8, n8, c8, by have := HLT.out; omega, by go_num, rfl, ?_⟩, by have := HLT.out; simp [intOf]; omega⟩
          have h9 := Q8.out.mine
          rw [HST.out]
          have e : (cnt L.length ++ ((L.take j).flatMap PairD.bytes ++ x.d.bytes)) = cnt L.length ++ (L.take j).flatMap PairD.bytes ++ txt x.key ++ [0] := by simp [PairD.bytes, PairV.d, HGN.out]
          rw [e]
          exact h9
        | false =>
          have HGN := hide hg
          clear hg
          go_wp2_with (first
            | (have _t := tokC; clear _t tokC; at_builtin; refine wpList_appQ rfl _ _ rfl w gp A4 n4 c4 (cnt L.length ++ (L.take j).flatMap PairD.bytes) (by rfl) Q6.out K6.out.lt A6 n6 c6 (txt x.key) (by rfl) T6.out.bys (by have := HN6.out; have := HN4.out; omega) ?_; intro A7 n7 c7 w7 q7 o7; have Q7 := hide q7; have K7 := hide (o7.blk K6.out (fun e => e rfl)); have y2 := K7.out.c2; rw [HGN.out] at y2; have HN7 := hide (show n7 ≤ 300000500 by have h1 := q7.2.1; have h2 := Q6.out.2.1; have h3 := T6.out.len; have h4 := HN6.out; have h5 := HN4.out; rw [List.length_append] at h1; omega); clear q7 o7; simp only [Act.put, sT, sZ, sS])
            | (have _t := tokD; clear _t tokD; at_builtin; refine wpList_appQ rfl _ _ rfl w gp A7 n7 c7 _ (by rfl) (Q7.out.under (below_alloc (Below.refl _ _) _)) (by have h9 := K7.out.lt; simp; omega) (some ⟨w7.heap.size, 0, none⟩) 1 1 [1] (by rfl) (Bys.one w7 5 1 (by decide) (by decide)) (by have := HN7.out; omega) ?_; intro A8 n8 c8 w8 q8 o8; have Q8 := hide q8; have K8 := hide (o8.blk (K7.out.under (below_alloc (Below.refl _ _) _)) (fun e => e rfl)); have y1 := K8.out.c1; have HN8 := hide (show n8 ≤ 300000501 by have h1 := q8.2.1; have h2 := Q7.out.2.1; have h5 := HN7.out; rw [List.length_append, List.length_singleton] at h1; omega); clear q8 o8 y2; simp only [Act.put, sT, sZ, sS]))
          clear y1
          refine (reftext_any w8 w8 x.vA x.vN x.vC x.value (Below.refl _ _) (XF.out.value.below Q8.out.1) (by have := HKN.out; omega)).mono ?_
          rintro e w9 hp
          obtain ⟨A9, n9, c9, rfl, t9, _⟩ := hp.fresh
          have T9 := hide t9
          have HN9 := hide (show n9 ≤ 21000 by
            have h1 := t9.len
            have h2 := (cnt_length x.value.length).2
            have h3 := XF.out.value.1
            have h4 := HKN.out
            simp only [List.length_append, txt] at h1
            omega)
          clear hp t9
          go_wp2_with (at_builtin; refine wpList_appQ rfl _ _ rfl w gp A8 n8 c8 _ (by rfl) (Q8.out.under T9.out.below) (K8.out.under T9.out.below).lt A9 n9 c9 (txt x.value) (by rfl) T9.out.bys (by have := HN9.out; have := HN8.out; omega) ?_; intro A10 n10 c10 w10 q10 o10; have Q10 := hide q10; clear q10 o10; simp only [Act.put, sT, sZ, sS])
          refine ⟨⟨j + 1, A10, n10, c10, by have := HLT.out; omega, by go_num, rfl, ?_⟩, by have := HLT.out; simp [intOf]; omega⟩
          have h9 := Q10.out.mine
          rw [HST.out]
          have e : (cnt L.length ++ ((L.take j).flatMap PairD.bytes ++ x.d.bytes)) = cnt L.length ++ (L.take j).flatMap PairD.bytes ++ txt x.key ++ [1] ++ txt x.value := by simp [PairD.bytes, PairV.d, HGN.out]
          rw [e]
          exact h9
      · have hjn : j = n := by omega
        subst hjn
        clear hlt hj ht
        go_wp2_with fail
        go_ret2
        rw [HE.out]
        refine ⟨A4, n4, c4, rfl, ?_⟩
        have h9 := HT.out
        rw [← HLN.out, List.take_length] at h9
        exact h9
end Go.Proofs.Ytjnpkcabkccaoaa
