/- Lemmas and walks for TableRuns, packed. -/
import Derived.Test.YtjnpkcabkccaoaaGreatQ38
import Derived.Test.YtjnpkcabkccaoaaGreatQ37
import Derived.Test.YtjnpkcabkccaoaaGreatQ30
set_option maxRecDepth 100000
set_option maxHeartbeats 16000000
namespace Go.Proofs.YtjnpkcabkccaoaaGreat
open Go.RowKit
section
def mkSc (parts : Array (Nat × Value)) : Sem Value := Instr.build 135 parts
theorem mkSc_fold (parts : Array (Nat × Value)) : Instr.build 135 parts = mkSc parts := rfl
theorem zeroSc_info : (Tryz.prog.info? 135).map (·.zero) = some (some (.agg #[.slice none 0 0, .int .i64 0])) := by kernel_rfl
theorem mkSc_run (w : World) (A : Option Addr) (n c : Nat) : (mkSc #[(0, .slice A n c)]).run Tryz.prog w = .ok (.agg #[.slice A n c, .int .i64 0]) w := by
 have hz := zeroSc_info
 cases hq : Tryz.prog.info? 135 with
 | none => rw [hq] at hz; cases hz
 | some i =>
  rw [hq] at hz
  have hz' : i.zero = some (.agg #[.slice none 0 0, .int .i64 0]) := by simpa using hz
  have hs : ∀ t, t = 23 ∨ t = 3 → (Tryz.prog.info? t).map (·.size) = some 1 := by
   rintro t (rfl | rfl) <;> kernel_rfl
  have h28 := fun w => run_size (P := Tryz.prog) (hs 23 (.inl rfl)) w
  have h4 := fun w => run_size (P := Tryz.prog) (hs 3 (.inr rfl)) w
  unfold mkSc Instr.build
  simp only [Sem.run_bind, run_zero hq hz', Result.andThen_ok, run_underlying Tryz.underlying135]
  simp [h28, h4, Instr.fill, Value.cells]
attribute [local go_sem ↓] loadPr_fold mkPr_fold mkPrs1_fold mkSc_fold
theorem refPParse_any (w : World) (A : Option Addr) (n c : Nat) (bs : List Int) (hB : Bys w A n bs) (hc : n ≤ c) (hn : n ≤ 1000000000) :
  Calls Tryz.prog 37 #[.slice A n c] w (PParsePost w (parseP bs)) := by
 obtain ⟨w1, hw1⟩ : ∃ z, z = w.alloc (.cells #[.slice A n c, .int .i64 0] 135) := ⟨_, rfl⟩
 obtain ⟨g, hg⟩ : ∃ z, z = w.heap.size := ⟨_, rfl⟩
 have hz1 : w1.heap.size = w.heap.size + 1 := by rw [hw1]; simp
 have B1 := hide (show Below w.heap.size w w1 by rw [hw1]; exact below_alloc (Below.refl _ _) _)
 have K1 := hide (show Blk w1 g 135 [.slice A n c, .int .i64 0] by rw [hw1, hg]; exact Blk.new w _ _)
 have HG := hide (show w.heap.size ≤ g by omega)
 obtain ⟨h, R1⟩ : ∃ h, Hid (RdAt 135 w1 g h ⟨bs, 0⟩) := by
  rcases Nat.eq_zero_or_pos n with h0 | h0
  ·exact ⟨g, hide ⟨A, n, c, K1.out, hB.below B1.out, hc, fun h9 => by omega, by omega, hn⟩⟩
  ·obtain ⟨ab, ao, hA, hcell⟩ := hB.2.2 h0
   have hab : ab < w.heap.size := hB.lt h0 _ hA
   exact ⟨ab, hide ⟨A, n, c, K1.out, hB.below B1.out, hc, fun _ => ⟨fun ad e => by rw [hA] at e; injection e with e; rw [← e], by omega⟩, by omega, hn⟩⟩
 have HGL := hide R1.out.lt
 have hmk : (mkSc #[(0, .slice A n c)]).run Tryz.prog w = .ok (.agg #[.slice A n c, .int .i64 0]) w := mkSc_run w A n c
 have hw1' : w.alloc (.cells #[.slice A n c, .int .i64 0] 135) = w1 := hw1.symm
 have hg' : w.heap.size = g := hg.symm
 clear hw1 hg hz1 hB hc hn
 go_enter Tryz.func37, Tryz.ntmps37
 go_wp2_with fail
 clear hmk
 try rw [hw1']
 clear hw1' hg'
 refine (refcountof_any w1 g h ⟨bs, 0⟩ 1048576 R1.out (by decide)).mono ?_
 rintro e w2 ⟨rfl, hR2, o2⟩
 have e0 : (1048576 : Int).toNat = 1048576 := rfl
 rw [e0] at hR2 ⊢
 clear e0
 obtain ⟨N, hN⟩ : ∃ N, N = (Rd.count ⟨bs, 0⟩ 1048576).1 := ⟨_, rfl⟩
 obtain ⟨r0, hr0⟩ : ∃ r0, r0 = (Rd.count ⟨bs, 0⟩ 1048576).2 := ⟨_, rfl⟩
 have HNM := hide (show N ≤ 1048576 by
  rw [hN]
  unfold Rd.count
  simp only [ne_eq, not_true_eq_false, if_false]
  exact peek_most bs 1048576)
 have HP := hide (show parseP bs = doneP (Rd.pairs N r0) by rw [hN, hr0]; rfl)
 rw [← hr0] at hR2
 rw [← hN]
 have R2 := hide hR2
 have B2 := hide (show Below w.heap.size w w2 from B1.out.trans (o2.below B1.out.size (fun i hi e => by have h9 : i = g := e; have := HG.out; omega)))
 have HGL2 := hide (show g < w2.heap.size ∧ h < w2.heap.size by have := o2.size; have := HGL.out; omega)
 obtain ⟨w3, hw3⟩ : ∃ z, z = w2.alloc (.cells #[] 59) := ⟨_, rfl⟩
 have A0 := hide (show PAt 135 w2 w3 g h N r0 N r0 0 (some ⟨w2.heap.size, 0, none⟩) 0 [] from ⟨by omega, ⟨rfl, Nat.le_refl _, by rw [hw3]; simp, by rw [hw3]; exact World.ownsRow_made w2 #[] 0 (Nat.le_refl _) (by unfold maxLen; omega) rfl, by simp⟩, by rw [hw3]; exact hR2.below (below_alloc (Below.refl _ _) _), by unfold PEq; cases Rd.pairs N r0 <;> simp, by simp, by rw [hw3]; exact Only.alloc0 _ _⟩)
 have n9 : (N : Int) ≤ 1048576 := by have := HNM.out; omega
 have hw3' : w2.alloc (.cells #[] 59) = w3 := hw3.symm
 clear hN hr0 hR2 o2 R2 R1 HGL hw3
 go_wp2_with fail
 try rw [hw3']
 clear hw3'
 go_loopw [6, 7] (fun v i ws => ∃ (j M : Nat) (A' : Option Addr) (c' : Nat) (ys : List PairV) (r : Rd), i = .int .u64 (j : Int) ∧ v = .slice A' j c' ∧ PAt 135 w2 ws g h N r0 M r j A' c' ys) (fun _ i _ => N - (intOf i).toNat)
 case atStart => exact ⟨0, N, _, 0, [], r0, rfl, rfl, A0.out⟩
 case round =>
  clear A0
  obtain ⟨j, M, A4, c4, ys, r, rfl, rfl, ha⟩ := hrel
  obtain ⟨rest, err⟩ := r
  have HA := hide ha
  have BR := hide (show Below w.heap.size w wr from B2.out.trans (ha.only.below B2.out.size (fun i hi e => by have h9 : i = g := e; have := HG.out; omega)))
  have HJ := hide (show j + M = N from ha.sum)
  obtain ⟨Ar, nr, cr, hkr, hBr, _⟩ := ha.rd
  have KR := hide (show Blk wr g 135 [.slice Ar nr cr, .int .i64 err] from hkr)
  have NR := hide (show rest.length = nr from hBr.1)
  have j0 : (0 : Int) ≤ (j : Int) := by omega
  have x1 : wr.cell? ⟨g, 1, none⟩ = some (.int .i64 err) := KR.out.c1
  clear ha hkr hBr
  by_cases hgo : 0 < M ∧ err = 0
  ·obtain ⟨m1, rfl⟩ := hgo
   obtain ⟨M', hM'⟩ : ∃ M', M' + 1 = M := ⟨M - 1, by omega⟩
   have hmn := HNM.out
   have hms := HJ.out
   have j1 : (j : Int) < (N : Int) := by omega
   have j2 : j < N := by omega
   have HMM := hide hM'
   have HX := HA.out
   rw [← hM'] at HX
   have HAM := hide HX
   clear hM' hmn hms HX
   go_wp2_with fail
   clear x1
   refine (reftextof_any _ g h ⟨rest, 0⟩ 200 HA.out.rd (by decide)).mono ?_
   rintro e w3 ⟨A3, m3, c3, rfl, hB3, hc3, hf3, hR3, o3⟩
   obtain ⟨key, r1, h1⟩ : ∃ key r1, Rd.text ⟨rest, 0⟩ 200 = (key, r1) := ⟨_, _, rfl⟩
   have hkl := ptext_most ⟨rest, 0⟩ 200 (by decide)
   rw [h1] at hB3 hR3 hkl
   have H1 := hide h1
   have B3 := hide hB3
   have R3 := hide hR3
   have O3 := hide o3
   have C3 := hide hc3
   have F3 := hide hf3
   have M3 := hide (show m3 ≤ 200 by have h9 := hB3.1; simp only at h9 hkl; omega)
   have hmk := mkPr_key w3 A3 m3 c3
   clear h1 hB3 hR3 o3 hc3 hf3 hkl
   simp only
   go_wp2_with (first
    | (refine wpList_alloc_agg rfl 59 rfl zeroPr zeroPr_info ?_; simp only [pU])
    | (refine pr_store rfl _ _ rfl w3 rfl (by rfl) ⟨A3, m3, c3, key, none, 0, 0, [], false⟩ (by rfl) ?_; intro w4 b4 s4 k4; have B4 := hide b4; have K4 := hide k4; have S4 := hide s4; clear b4 s4 k4 hmk; simp only [Act.put]))
   refine (reffixedof_any w4 g h r1 1 (R3.out.below B4.out)).mono ?_
   rintro e w5 ⟨rfl, hR5, o5⟩
   obtain ⟨F, r2, h2⟩ : ∃ F r2, r1.fixed 1 = (F, r2) := ⟨_, _, rfl⟩
   rw [h2] at hR5 ⊢
   simp only at hR5 ⊢
   obtain ⟨gp, hgp⟩ : ∃ z, z = w3.heap.size := ⟨_, rfl⟩
   have HGP := hide (show w2.heap.size ≤ gp ∧ wr.heap.size ≤ gp by have h7 := HAM.out.row.low; have h8 := O3.out.size; omega)
   have NGP := hide (show gp ≠ g by have := HGP.out; have := HGL2.out; omega)
   have HPP := hide (pair_parts ⟨rest, 0⟩ key r1 F r2 H1.out h2)
   rw [← hgp] at K4 S4 ⊢
   have K5 := hide (o5.blk K4.out NGP.out)
   have R5 := hide hR5
   have O5 := hide (show Only (fun i => i = g) wr w5 from ((O3.out.trans (Only.of_below B4.out (fun _ => False)) (fun _ _ h => h.elim)).trans o5 (fun _ _ h => h)))
   have Y5 := hide (show Bys w5 A3 m3 key from (B3.out.below B4.out).keep o5 (fun _ ad e hf => by have h7 := F3.out ad e; have h8 : ad.block = g := hf; have h9 := HGL2.out; have h10 := HAM.out.row.low; omega))
   have FF3 := hide (show Fr wr A3 from F3.out)
   have LT3 := hide (show 0 < m3 → ∀ ad, A3 = some ad → ad.block < gp from fun h0 ad e => by rw [hgp]; exact B3.out.lt h0 ad e)
   clear h2 hR5 o5 hgp R3 O3 B3 K4 B4 S4
   have c0 := K5.out.c0
   have c1 := K5.out.c1
   have c2 := K5.out.c2
   have f0 := K5.out.frozen 0
   have f1 := K5.out.frozen 1
   have f2 := K5.out.frozen 2
   by_cases hF0 : F = 0
   ·subst hF0
    have hpr := HPP.out.2.1 rfl
    have HPR := hide hpr
    obtain ⟨W6, hW6⟩ : ∃ z, w5.setCell ⟨gp, 2, none⟩ (.bool true) = z := ⟨_, rfl⟩
    obtain ⟨V, hV⟩ : ∃ V : PairV, V = ⟨A3, m3, c3, key, none, 0, 0, [], true⟩ := ⟨_, rfl⟩
    have HV := hide hV
    have O6 := hide (show Only (fun i => i = gp) w5 W6 by rw [← hW6]; exact Only.cell1 _ _ _ _)
    have K6 := hide (show Blk W6 gp 59 V.cells by rw [← hW6, hV]; exact K5.out.set_ 2 _)
    have hld := loadPr_run W6 gp 0 V K6.out.whole
    obtain ⟨W7, hW7⟩ : ∃ z, z = W6.alloc (.cells V.cells.toArray 59) := ⟨_, rfl⟩
    have hmk := mkPrs1_run W6 V
    rw [← hW7] at hmk
    have B7 := hide (show Below W6.heap.size W6 W7 by rw [hW7]; exact below_alloc (Below.refl _ _) _)
    have N7 := hide (show W7.rangeAt W6.heap.size 0 V.cells by rw [hW7]; exact (Blk.new W6 59 V.cells).whole)
    have O7 := hide (show Only (fun i => i = g) wr W7 from ((O5.out.trans O6.out (fun i hi e => by have h9 : i = gp := e; have := HGP.out; omega)).trans (Only.of_below B7.out (fun _ => False)) (fun _ _ h => h.elim)))
    have R7 := hide (show RdAt 135 W7 g h r2 from (R5.out.keep O6.out (fun e => NGP.out e.symm) (fun e => by have h9 : h = gp := e; have := HGP.out; have := HGL2.out; omega)).below B7.out)
    have V7 := hide (show V.Fine W7 by
     rw [hV]
     exact ⟨(Y5.out.keep O6.out (fun hpos ad e hf => by have h7 := LT3.out hpos ad e; have h8 : ad.block = gp := hf; omega)).below B7.out, C3.out, Bys.nil _ _, Nat.le_refl _⟩)
    have VK := hide (show Fr wr V.kA ∧ Fr wr V.vA by rw [hV]; exact ⟨FF3.out, Fr.none _⟩)
    have VS := hide (show V.kN ≤ 200 ∧ V.vN ≤ 20000 by rw [hV]; exact ⟨M3.out, Nat.zero_le _⟩)
    have VP := hide (show Rd.pair ⟨rest, 0⟩ = some (V.d, r2) by rw [hV]; exact HPR.out)
    have RC := hide (HAM.out.row.step O7.out (fun i _ e => by have h9 : i = g := e; have := HGL2.out; omega))
    have J9 := hide (show j + 1 ≤ 2000000 by have := HJ.out; have := HNM.out; omega)
    clear hV hW7 hpr c0 c1 f0 f1
    go_wp2_with (at_builtin; refine wpListRow rfl 46 rfl _ _ 37 rfl 59 3 56 Tryz.underlying37 pr_infoR (by decide) w2.heap.size (.slice A4 j c4) j _ (by rfl) RC.out.row RC.out.low W6.heap.size 0 1 1 V.cells (by rfl) rfl N7.out (PairV.one V) (by have := J9.out; omega) (by decide) ?_; intro A9 c9 w9 q1 q2 q3 q4; have P9 := hide (HAM.out.next rfl VP.out V7.out VK.out.1 VK.out.2 VS.out O7.out R7.out HGL2.out.1 HGL2.out.2 q1 q2 q3 q4); clear q1 q2 q3 q4; simp only [pU])
    exact ⟨⟨j + 1, M', A9, c9, ys ++ [V], _, by go_num, rfl, P9.out⟩, by have := HMM.out; have := HJ.out; simp [intOf]; omega⟩
   ·by_cases hF1 : F = 1
    ·subst hF1
     have HP1 := hide (HPP.out.2.2 rfl)
     obtain ⟨w5s, hw5s⟩ : ∃ z, w5.setCell ⟨gp, 2, none⟩ (.bool false) = z := ⟨_, rfl⟩
     have O5s := hide (show Only (fun i => i = gp) w5 w5s by rw [← hw5s]; exact Only.cell1 _ _ _ _)
     have K5s := hide (show Blk w5s gp 59 [.slice A3 m3 c3, .slice none 0 0, .bool false] by rw [← hw5s]; exact K5.out.set_ 2 _)
     have R5s := hide (R5.out.keep O5s.out (fun e => NGP.out e.symm) (fun e => by have h9 : h = gp := e; have := HGP.out; have := HGL2.out; omega))
     have Y5s := hide (show Bys w5s A3 m3 key from Y5.out.keep O5s.out (fun hpos ad e hf => by have h7 := LT3.out hpos ad e; have h8 : ad.block = gp := hf; omega))
     have OO5 := hide (show Only (fun i => i = g) wr w5s from O5.out.trans O5s.out (fun i hi e => by have h9 : i = gp := e; have := HGP.out; omega))
     go_wp2_with fail
     clear hw5s
     refine (reftextof_any w5s g h r2 20000 R5s.out (by decide)).mono ?_
     rintro e w6 ⟨A6, m6, c6, rfl, hB6, hc6, hf6, hR6, o6⟩
     obtain ⟨v, r3, h3⟩ : ∃ v r3, r2.text 20000 = (v, r3) := ⟨_, _, rfl⟩
     have hvl := ptext_most r2 20000 (by decide)
     rw [h3] at hB6 hR6 hvl
     have HPR := hide (HP1.out v r3 h3)
     have M6 := hide (show m6 ≤ 20000 by have h9 := hB6.1; simp only at h9 hvl; omega)
     have C6 := hide hc6
     have F6 := hide hf6
     have B6 := hide hB6
     have K6a := hide (o6.blk K5s.out NGP.out)
     have LT6 := hide (show 0 < m6 → ∀ ad, A6 = some ad → ad.block ≠ gp from fun _ ad e => by have h7 := hf6 ad e; have h8 := K5s.out.lt; omega)
     have Y6 := hide (show Bys w6 A3 m3 key from Y5s.out.keep o6 (fun _ ad e hf => by have h7 := FF3.out ad e; have h8 : ad.block = g := hf; have h9 := HGL2.out; have h10 := HAM.out.row.low; omega))
     have O6a := hide (OO5.out.trans o6 (fun _ _ h => h))
     have R6a := hide hR6
     have FR6 := hide (show Fr wr A6 from fun ad e => Nat.le_trans OO5.out.size (hf6 ad e))
     clear hB6 hc6 hf6 hR6 o6 h3 hvl c0 c1 c2 f0 f1 f2
     have c0 := K6a.out.c0
     have c1 := K6a.out.c1
     have f0 := K6a.out.frozen 0
     have f1 := K6a.out.frozen 1
     have hpr := True.intro
     obtain ⟨W6, hW6⟩ : ∃ z, w6.setCell ⟨gp, 1, none⟩ (.slice A6 m6 c6) = z := ⟨_, rfl⟩
     obtain ⟨V, hV⟩ : ∃ V : PairV, V = ⟨A3, m3, c3, key, A6, m6, c6, v, false⟩ := ⟨_, rfl⟩
     have HV := hide hV
     have O6 := hide (show Only (fun i => i = gp) w6 W6 by rw [← hW6]; exact Only.cell1 _ _ _ _)
     have K6 := hide (show Blk W6 gp 59 V.cells by rw [← hW6, hV]; exact K6a.out.set_ 1 _)
     have hld := loadPr_run W6 gp 0 V K6.out.whole
     obtain ⟨W7, hW7⟩ : ∃ z, z = W6.alloc (.cells V.cells.toArray 59) := ⟨_, rfl⟩
     have hmk := mkPrs1_run W6 V
     rw [← hW7] at hmk
     have B7 := hide (show Below W6.heap.size W6 W7 by rw [hW7]; exact below_alloc (Below.refl _ _) _)
     have N7 := hide (show W7.rangeAt W6.heap.size 0 V.cells by rw [hW7]; exact (Blk.new W6 59 V.cells).whole)
     have O7 := hide (show Only (fun i => i = g) wr W7 from ((O6a.out.trans O6.out (fun i hi e => by have h9 : i = gp := e; have := HGP.out; omega)).trans (Only.of_below B7.out (fun _ => False)) (fun _ _ h => h.elim)))
     have R7 := hide (show RdAt 135 W7 g h r3 from (R6a.out.keep O6.out (fun e => NGP.out e.symm) (fun e => by have h9 : h = gp := e; have := HGP.out; have := HGL2.out; omega)).below B7.out)
     have V7 := hide (show V.Fine W7 by
      rw [hV]
      exact ⟨(Y6.out.keep O6.out (fun hpos ad e hf => by have h7 := LT3.out hpos ad e; have h8 : ad.block = gp := hf; omega)).below B7.out, C3.out, (B6.out.keep O6.out (fun hpos ad e hf => LT6.out hpos ad e hf)).below B7.out, C6.out⟩)
     have VK := hide (show Fr wr V.kA ∧ Fr wr V.vA by rw [hV]; exact ⟨FF3.out, FR6.out⟩)
     have VS := hide (show V.kN ≤ 200 ∧ V.vN ≤ 20000 by rw [hV]; exact ⟨M3.out, M6.out⟩)
     have VP := hide (show Rd.pair ⟨rest, 0⟩ = some (V.d, r3) by rw [hV]; exact HPR.out)
     have RC := hide (HAM.out.row.step O7.out (fun i _ e => by have h9 : i = g := e; have := HGL2.out; omega))
     have J9 := hide (show j + 1 ≤ 2000000 by have := HJ.out; have := HNM.out; omega)
     clear hV hW7 hpr c0 f0
     go_wp2_with (at_builtin; refine wpListRow rfl 46 rfl _ _ 37 rfl 59 3 56 Tryz.underlying37 pr_infoR (by decide) w2.heap.size (.slice A4 j c4) j _ (by rfl) RC.out.row RC.out.low W6.heap.size 0 1 1 V.cells (by rfl) rfl N7.out (PairV.one V) (by have := J9.out; omega) (by decide) ?_; intro A9 c9 w9 q1 q2 q3 q4; have P9 := hide (HAM.out.next rfl VP.out V7.out VK.out.1 VK.out.2 VS.out O7.out R7.out HGL2.out.1 HGL2.out.2 q1 q2 q3 q4); clear q1 q2 q3 q4; simp only [pU])
     exact ⟨⟨j + 1, M', A9, c9, ys ++ [V], _, by go_num, rfl, P9.out⟩, by have := HMM.out; have := HJ.out; simp [intOf]; omega⟩
    ·have hpn := HPP.out.1 (by omega)
     have HPN := hide (HP.out.trans (show doneP (Rd.pairs N r0) = none by rw [HAM.out.eq.none rfl hpn]; rfl))
     have e0 : ((F : Int) == 0) = false := by simp; omega
     have e1 : ((F : Int) == 1) = false := by simp; omega
     have BW := hide (show Below w.heap.size w w5 from BR.out.trans (O5.out.below BR.out.size (fun i hi e => by have h9 : i = g := e; have := HG.out; omega)))
     clear hpn
     go_wp2_with fail
     go_ret2
     exact ⟨BW.out, .inl ⟨HPN.out, rfl⟩⟩
  ·have HOV := hide (HP.out.trans (by rw [HA.out.eq.over (by
     rcases Nat.eq_zero_or_pos M with h9 | h9
     ·exact .inl h9
     ·exact .inr (fun e => hgo ⟨h9, e⟩))]))
   have hbt := hide (refRight_any wr A4 j c4 ys HA.out.row.in_ (by have := HJ.out; have := HNM.out; omega) (fun p hp => by have := HA.out.small p hp; exact ⟨by omega, by omega⟩))
   have x0 : wr.cell? ⟨g, 0, none⟩ = some (.slice Ar nr cr) := KR.out.c0
   by_cases he : err = 0
   ·subst he
    obtain rfl : M = 0 := by
     rcases Nat.eq_zero_or_pos M with h9 | h9
     ·exact h9
     ·exact absurd ⟨h9, rfl⟩ hgo
    have j1 : ¬ (j : Int) < (N : Int) := by have := HJ.out; omega
    have j2 : ¬ j < N := by have := HJ.out; omega
    clear hgo
    by_cases hl : 0 < nr
    ·have HD := hide (HOV.out.trans (show doneP (some (ys.map PairV.d, ⟨rest, 0⟩)) = none by rw [doneP, if_pos (.inr (.inl (by show 0 < rest.length; rw [NR.out]; exact hl)))]))
     clear HOV
     go_wp2_with fail
     go_ret2
     exact ⟨BR.out, .inl ⟨HD.out, rfl⟩⟩
    ·have hl0 : nr = 0 := by omega
     subst hl0
     clear hl
     cases hr : rightB (ys.map PairV.d) with
     | false =>
      have HD := hide (HOV.out.trans (show doneP (some (ys.map PairV.d, ⟨rest, 0⟩)) = none by rw [doneP, if_pos (.inr (.inr hr))]))
      rw [hr] at hbt
      clear HOV hr
      go_wp2_with fail
      refine hbt.out.mono ?_
      rintro e w3 ⟨rfl, b3⟩
      have B3 := hide b3
      clear b3
      go_wp2_with fail
      go_ret2
      exact ⟨Below.then_ BR.out B3.out, .inl ⟨HD.out, rfl⟩⟩
     | true =>
      have HD := hide (HOV.out.trans (show doneP (some (ys.map PairV.d, ⟨rest, 0⟩)) = some (ys.map PairV.d) by
       rw [doneP, if_neg]
       rintro (h9 | h9 | h9)
       ·exact h9 rfl
       ·have h8 : 0 < rest.length := h9
        rw [NR.out] at h8
        omega
       ·rw [hr] at h9; cases h9))
      rw [hr] at hbt
      clear HOV hr
      go_wp2_with fail
      refine hbt.out.mono ?_
      rintro e w3 ⟨rfl, b3⟩
      have B3 := hide b3
      clear b3
      go_wp2_with fail
      go_ret2
      refine ⟨Below.then_ BR.out B3.out, .inr ⟨A4, j, c4, ys, HD.out, rfl, HA.out.row.cap, ?_, by have := HJ.out; have := HNM.out; omega⟩⟩
      exact (HA.out.row.under B3.out).stay.mono fun i _ hi => by have := B2.out.size; show i < w2.heap.size; omega
   ·have HD := hide (HOV.out.trans (show doneP (some (ys.map PairV.d, ⟨rest, err⟩)) = none by rw [doneP, if_pos (.inl he)]))
    have e1 : (err == 0) = false := by simpa using he
    have e2 : (err != 0) = true := by simpa using he
    clear HOV hgo he
    by_cases hM : j < N
    ·have m1 : (j : Int) < (N : Int) := by omega
     go_wp2_with fail
     go_ret2
     exact ⟨BR.out, .inl ⟨HD.out, rfl⟩⟩
    ·have m1 : ¬ (j : Int) < (N : Int) := by omega
     go_wp2_with fail
     go_ret2
     exact ⟨BR.out, .inl ⟨HD.out, rfl⟩⟩
end
section
def laidS (s : List Int) (j : Nat) : List Int := s.take j ++ List.replicate (128 - j) 0
theorem laidS_len {s : List Int} {j : Nat} (h : j ≤ s.length) (h2 : j ≤ 128) : (laidS s j).length = 128 := by
 rw [laidS, List.length_append, List.length_take, List.length_replicate]; omega
theorem laidS_step {s : List Int} {j : Nat} {x : Int} (hx : s[j]? = some x) (hj : j < 128) : (laidS s j).set j x = laidS s (j + 1) := by
 have hl : j < s.length := (List.getElem?_eq_some_iff.1 hx).1
 have ht : (s.take j).length = j := by rw [List.length_take]; omega
 have e : 128 - j = (128 - (j + 1)) + 1 := by omega
 rw [laidS, laidS, List.set_append_right _ _ (by omega), ht, Nat.sub_self, e, List.replicate_succ, List.set_cons_zero, List.take_add_one, hx, List.append_assoc]
 rfl
def markS (p m : List Int) (k : Nat) : List Int := p ++ m.take k ++ List.replicate (8 - k) 0
theorem markS_step {p m : List Int} {k : Nat} {x : Int} (hp : p.length = 120) (hx : m[k]? = some x) (hk : k < 8) : (markS p m k).set (120 + k) x = markS p m (k + 1) := by
 have hl : k < m.length := (List.getElem?_eq_some_iff.1 hx).1
 have ht : (p ++ m.take k).length = 120 + k := by rw [List.length_append, List.length_take, hp]; omega
 have e : 8 - k = (8 - (k + 1)) + 1 := by omega
 rw [markS, markS, List.set_append_right _ _ (by omega), ht, Nat.sub_self, e, List.replicate_succ, List.set_cons_zero, List.take_add_one, hx]
 simp
theorem laidS_all (s : List Int) : laidS s (min 120 s.length) = markS (s.take 120 ++ List.replicate (120 - (s.take 120).length) 0) [] 0 := by
 have hl : (s.take 120).length = min 120 s.length := by rw [List.length_take]
 have ht : s.take (min 120 s.length) = s.take 120 := by
  rcases Nat.le_total 120 s.length with h | h
  ·rw [Nat.min_eq_left h]
  ·rw [Nat.min_eq_right h, List.take_of_length_le (Nat.le_refl _), List.take_of_length_le h]
 rw [laidS, markS, ht, hl, List.take_nil, List.append_nil, List.append_assoc, List.replicate_append_replicate]
 congr 2
 omega
theorem markS_all (p m : List Int) (hm : m.length = 8) : markS p m 8 = p ++ m := by
 rw [markS, List.take_of_length_le (by omega)]; simp
def mkSlb (parts : Array (Nat × Value)) : Sem Value := Instr.build 94 parts
theorem mkSlb_fold (parts : Array (Nat × Value)) : Instr.build 94 parts = mkSlb parts := rfl
theorem mkSlb_zero (w : World) : (mkSlb #[]).run Tryz.prog w = .ok (.agg (enc zeroS).toArray) w := by kernel_rfl
attribute [local go_sem ↓] loadSlab_fold mkSlb_fold
attribute [local go_sem] mkSlb_zero
theorem rSlab_any (w : World) (s : List Int) (hB : Byt s) (hl : s.length ≤ 8000000) (mark : Nat) (hm : (mark : Int) < 18446744073709551616) :
  Calls Tryz.prog 97 #[.string (ba s), .int .u64 (mark : Int)] w fun e w' => e = .returned (.agg (enc (slabOf (s.take 120) mark)).toArray) ∧ Below w.heap.size w w' := by
 obtain ⟨n, hn⟩ : ∃ n, n = s.length := ⟨_, rfl⟩
 have hsz : (ba s).size = n := by rw [ba_size, hn]
 have hat := fun (i : Nat) (x : Int) (hx : s[i]? = some x) (w : World) => str_at s hB i x hx w
 obtain ⟨S, hS⟩ : ∃ S, S = ba s := ⟨_, rfl⟩
 obtain ⟨v, hv⟩ : ∃ v : Int, v = (mark : Int) := ⟨_, rfl⟩
 rw [← hS] at hsz hat ⊢
 rw [← hv] at hm ⊢
 have HAT := hide hat
 have HN := hide hn
 have HB := hide hB
 have HV := hide hv
 have HM := hide hm
 have n9 : (n : Int) ≤ 8000000 := by omega
 have n0 : (0 : Int) ≤ (n : Int) := by omega
 clear hn hS hB hl hat hv hm
 obtain ⟨w1, hw1⟩ : ∃ z, z = w.alloc (.cells (enc zeroS).toArray 94) := ⟨_, rfl⟩
 obtain ⟨r, hr⟩ : ∃ z, z = w.heap.size := ⟨_, rfl⟩
 obtain ⟨g, hg⟩ : ∃ z, z = w1.heap.size := ⟨_, rfl⟩
 have R1 := hide (show Blk w1 r 94 (enc zeroS) by rw [hw1, hr]; exact Blk.new w _ _)
 have B1 := hide (show Below w.heap.size w w1 by rw [hw1]; exact below_alloc (Below.refl _ _) _)
 have KZ := hide (show Blk (w1.alloc (.cells (enc zeroS).toArray 94)) g 94 (enc zeroS) by rw [hg]; exact Blk.new w1 _ _)
 have HRG := hide (show w.heap.size ≤ r ∧ r < g ∧ w1.heap.size ≤ g by rw [hr, hg, hw1]; simp)
 have hI := hide (isz33' zeroS zeroS_length)
 have HW1 := hide hw1
 have HR1 := hide hr
 have HG1 := hide hg
 clear hw1 hr hg
 have tokA : True := trivial
 have tokB : True := trivial
 have tokC : True := trivial
 go_enter Tryz.func97, Tryz.ntmps97
 go_wp2_with (first
  | (have _t := tokA; clear _t tokA; refine wpList_alloc_agg rfl 94 rfl (enc zeroS) zero33 ?_; rw [← HW1.out, ← HR1.out]; simp only [pU])
  | (have _t := tokB; clear _t tokB; refine wpList_alloc_agg rfl 94 rfl (enc zeroS) zero33 ?_; rw [← HG1.out]; simp only [pU])
  | (have _t := tokC; clear _t tokC; refine wpList_store_blk rfl 94 _ _ rfl g 0 94 (enc zeroS) (enc zeroS) (by rfl) (by rfl) KZ.out (Nat.le_of_eq rfl) hI.out (enc_one _) ?_; intro w3 o3 z3 b3; rw [lay_all _ _ rfl] at b3; have K3 := hide b3; have R3 := hide (o3.blk (R1.out.under (below_alloc (Below.refl _ _) _)) (by have := HRG.out; omega)); have B3 := hide (show Below w.heap.size w w3 from (Below.then_ B1.out (below_alloc (Below.refl _ w1) _)).trans (o3.below (by have := B1.out.size; simp; omega) (fun i hi e => by have h9 : i = g := e; have := HRG.out; omega))); clear o3 z3 b3; simp only [Act.put]))
 go_loopw [6] (fun i ws => ∃ j : Nat, j ≤ 120 ∧ j ≤ n ∧ i = .int .i64 (j : Int) ∧ Blk ws g 94 (bcs (laidS s j)) ∧ Blk ws r 94 (enc zeroS) ∧ Below w.heap.size w ws) (fun i _ => 121 - (intOf i).toNat)
 case atStart => exact ⟨0, by omega, by omega, rfl, K3.out, R3.out, B3.out⟩
 case round =>
  clear K3 R3 B3
  obtain ⟨j, hj, hjn, rfl, hk, hr, hb⟩ := hrel
  have HK := hide hk
  have HR := hide hr
  have HBW := hide hb
  have j0 : (0 : Int) ≤ (j : Int) := by omega
  clear hk hr hb
  by_cases hlt : j < 120
  ·by_cases hln : j < n
   ·obtain ⟨x, hx⟩ : ∃ x, s[j]? = some x := ⟨_, List.getElem?_eq_getElem (by rw [← HN.out]; exact hln)⟩
    have cx := HAT.out j x hx wr
    have i1 : (j : Int) < 120 := by omega
    have i2 : (j : Int) < (n : Int) := by omega
    have i3 : (j : Int) < 128 := by omega
    have hll : (laidS s j).length = 128 := laidS_len (by rw [← HN.out]; omega) (by omega)
    obtain ⟨y, hy⟩ : ∃ y, (bcs (laidS s j))[j]? = some y := ⟨_, List.getElem?_eq_getElem (by rw [bcs_length, hll]; omega)⟩
    have q0 : wr.cell? ⟨g, j, none⟩ = some y := (HK.out.cell j).trans hy
    have q1 := HK.out.frozen j
    obtain ⟨w4, hw4⟩ : ∃ z, wr.setCell ⟨g, j, none⟩ (.int .u8 x) = z := ⟨_, rfl⟩
    have O4 := hide (show Only (fun i => i = g) wr w4 by rw [← hw4]; exact Only.cell1 _ _ _ _)
    have K4 := hide (show Blk w4 g 94 (bcs (laidS s (j + 1))) by
     have h9 := HK.out.set_ j (.int .u8 x)
     rw [hw4, bcs_set, laidS_step hx (by omega)] at h9
     exact h9)
    have HJ := hide (And.intro hlt hln)
    clear hx hy hll hlt hln hj hjn
    go_wp2_with fail
    try rw [hw4]
    exact ⟨⟨j + 1, by have := HJ.out; omega, by have := HJ.out; omega, by go_num, K4.out, O4.out.blk HR.out (by have := HRG.out; omega), HBW.out.trans (O4.out.below HBW.out.size (fun i hi e => by have h9 : i = g := e; have := HRG.out; omega))⟩, by have := HJ.out; simp [intOf]; omega⟩
   ·have i1 : (j : Int) < 120 := by omega
    have i2 : ¬ (j : Int) < (n : Int) := by omega
    have HJ := hide (show j = min 120 n by omega)
    clear hlt hln hj hjn
    go_wp2_with fail
    have HD8 := hide (dig_length v.toNat 8)
    refine (reffixed_any wr wr v 8 (Below.refl _ _) (by have := HV.out; omega) (by have := HM.out; omega)).mono ?_
    rintro e w6 hp
    obtain ⟨A6, n6, c6, rfl, t6, f6⟩ := hp.fresh
    rw [within8] at t6
    obtain ⟨M8, hM8⟩ : ∃ z, z = dig v.toNat 8 := ⟨_, rfl⟩
    rw [← hM8] at t6 HD8
    have HM8 := hide (show M8 = dig mark 8 by rw [hM8]; congr 1; have := HV.out; omega)
    obtain rfl : n6 = 8 := by rw [← t6.len, HD8.out]
    obtain ⟨p, hp9⟩ : ∃ p, p = s.take 120 ++ List.replicate (120 - (s.take 120).length) 0 := ⟨_, rfl⟩
    have HPP := hide hp9
    have HPL := hide (show p.length = 120 by rw [hp9, List.length_append, List.length_replicate, List.length_take]; omega)
    have K6 := hide (show Blk w6 g 94 (bcs (markS p M8 0)) by
     have h9 := HK.out.under t6.below
     rw [HJ.out, HN.out, laidS_all, ← hp9] at h9
     simpa [markS] using h9)
    have R6 := hide (HR.out.under t6.below)
    have B6 := hide (Below.then_ HBW.out t6.below)
    have Y6 := hide t6.bys
    have F6 := hide (show ∀ ad, A6 = some ad → g < ad.block from fun ad e => by have h1 := f6 ad e; have h2 := HK.out.lt; omega)
    clear hp t6 f6 hM8 hp9
    go_wp2_with fail
    go_loopw [7, 8, 28] (fun _ _ i ws => ∃ k : Nat, k ≤ 8 ∧ i = .int .i64 (k : Int) ∧ Blk ws g 94 (bcs (markS p M8 k)) ∧ Blk ws r 94 (enc zeroS) ∧ Bys ws A6 8 M8 ∧ Below w.heap.size w ws) (fun _ _ i _ => 9 - (intOf i).toNat)
    case atStart => exact ⟨0, by omega, rfl, K6.out, R6.out, Y6.out, B6.out⟩
    case round =>
     obtain ⟨k, hk8, rfl, hk, hr, hy, hb⟩ := hrel
     have KK := hide hk
     have RR := hide hr
     have YY := hide hy
     have BB := hide hb
     have k0 : (0 : Int) ≤ (k : Int) := by omega
     clear hk hr hy hb
     by_cases hlt : k < 8
     ·obtain ⟨x, hx⟩ : ∃ x, M8[k]? = some x := ⟨_, List.getElem?_eq_getElem (by rw [HD8.out]; exact hlt)⟩
      obtain ⟨ab, ao, rfl, hcc⟩ := YY.out.2.2 (by decide)
      have cx := hcc k x hx
      have i1 : (k : Int) < 8 := by omega
      have i3 : 120 + (k : Int) < 128 := by omega
      have i4 : (0 : Int) ≤ 120 + (k : Int) := by omega
      have i5 : IntKind.i64.wrap (120 + (k : Int)) = 120 + (k : Int) := by rw [IntKind.wrap_i64]; omega
      have i6 : (120 + (k : Int)).toNat = 120 + k := by omega
      have hll : (markS p M8 k).length = 128 := by simp only [markS, List.length_append, List.length_take, List.length_replicate, HPL.out, HD8.out]; omega
      obtain ⟨y, hy⟩ : ∃ y, (bcs (markS p M8 k))[120 + k]? = some y := ⟨_, List.getElem?_eq_getElem (by rw [bcs_length, hll]; omega)⟩
      have q0 : wr.cell? ⟨g, 120 + k, none⟩ = some y := (KK.out.cell _).trans hy
      have q1 := KK.out.frozen (120 + k)
      obtain ⟨w4, hw4⟩ : ∃ z, wr.setCell ⟨g, 120 + k, none⟩ (.int .u8 x) = z := ⟨_, rfl⟩
      have O4 := hide (show Only (fun i => i = g) wr w4 by rw [← hw4]; exact Only.cell1 _ _ _ _)
      have K4 := hide (show Blk w4 g 94 (bcs (markS p M8 (k + 1))) by
       have h9 := KK.out.set_ (120 + k) (.int .u8 x)
       rw [hw4, bcs_set, markS_step HPL.out hx hlt] at h9
       exact h9)
      have HLT := hide hlt
      clear hx hy hll hlt hk8 hcc
      go_wp2_with fail
      try rw [hw4]
      exact ⟨⟨k + 1, by have := HLT.out; omega, by go_num, K4.out, O4.out.blk RR.out (by have := HRG.out; omega), YY.out.keep O4.out (fun _ ad e hf => by have h1 := F6.out ad e; have h2 : ad.block = g := hf; omega), BB.out.trans (O4.out.below BB.out.size (fun i hi e => by have h9 : i = g := e; have := HRG.out; omega))⟩, by have := HLT.out; simp [intOf]; omega⟩
     ·obtain rfl : k = 8 := by omega
      clear hlt hk8
      have KF := KK.out
      rw [markS_all _ _ HD8.out] at KF
      obtain ⟨fin, hfin⟩ : ∃ z, z = p ++ M8 := ⟨_, rfl⟩
      rw [← hfin] at KF
      have HFIN := hide (show fin = slabOf (s.take 120) mark by rw [hfin, HPP.out, HM8.out]; rfl)
      have HFL := hide (show fin.length = 128 by rw [hfin, List.length_append, HPL.out, HD8.out])
      have hld := loadSlabR wr g 0 fin KF.whole HFL.out
      have hI2 := hide (isz33' fin HFL.out)
      clear KF hfin
      go_wp2_with (refine wpList_store_blk rfl 94 _ _ rfl r 0 94 (enc zeroS) (enc fin) (by rfl) (by rfl) RR.out (Nat.le_of_eq (by rw [enc_length, enc_length, HFL.out, zeroS_length])) hI2.out (enc_one _) ?_; intro w9 o9 z9 b9; rw [lay_all _ _ (by rw [enc_length, enc_length, HFL.out, zeroS_length])] at b9; simp only [Act.put])
      refine bodyPost_ret (results_cell_blk rfl _ _ r 94 _ _ (by rfl) b9 Tryz.underlying94 rfl hI2.out) rfl ⟨by rw [HFIN.out], BB.out.trans (o9.below BB.out.size (fun i hi e => by have h9 : i = r := e; have := HRG.out; omega))⟩
  ·have i1 : ¬ (j : Int) < 120 := by omega
   have HJ := hide (show j = min 120 n by omega)
   clear hlt hj hjn
   go_wp2_with fail
   have HD8 := hide (dig_length v.toNat 8)
   refine (reffixed_any wr wr v 8 (Below.refl _ _) (by have := HV.out; omega) (by have := HM.out; omega)).mono ?_
   rintro e w6 hp
   obtain ⟨A6, n6, c6, rfl, t6, f6⟩ := hp.fresh
   rw [within8] at t6
   obtain ⟨M8, hM8⟩ : ∃ z, z = dig v.toNat 8 := ⟨_, rfl⟩
   rw [← hM8] at t6 HD8
   have HM8 := hide (show M8 = dig mark 8 by rw [hM8]; congr 1; have := HV.out; omega)
   obtain rfl : n6 = 8 := by rw [← t6.len, HD8.out]
   obtain ⟨p, hp9⟩ : ∃ p, p = s.take 120 ++ List.replicate (120 - (s.take 120).length) 0 := ⟨_, rfl⟩
   have HPP := hide hp9
   have HPL := hide (show p.length = 120 by rw [hp9, List.length_append, List.length_replicate, List.length_take]; omega)
   have K6 := hide (show Blk w6 g 94 (bcs (markS p M8 0)) by
    have h9 := HK.out.under t6.below
    rw [HJ.out, HN.out, laidS_all, ← hp9] at h9
    simpa [markS] using h9)
   have R6 := hide (HR.out.under t6.below)
   have B6 := hide (Below.then_ HBW.out t6.below)
   have Y6 := hide t6.bys
   have F6 := hide (show ∀ ad, A6 = some ad → g < ad.block from fun ad e => by have h1 := f6 ad e; have h2 := HK.out.lt; omega)
   clear hp t6 f6 hM8 hp9
   go_wp2_with fail
   go_loopw [7, 8, 28] (fun _ _ i ws => ∃ k : Nat, k ≤ 8 ∧ i = .int .i64 (k : Int) ∧ Blk ws g 94 (bcs (markS p M8 k)) ∧ Blk ws r 94 (enc zeroS) ∧ Bys ws A6 8 M8 ∧ Below w.heap.size w ws) (fun _ _ i _ => 9 - (intOf i).toNat)
   case atStart => exact ⟨0, by omega, rfl, K6.out, R6.out, Y6.out, B6.out⟩
   case round =>
    obtain ⟨k, hk8, rfl, hk, hr, hy, hb⟩ := hrel
    have KK := hide hk
    have RR := hide hr
    have YY := hide hy
    have BB := hide hb
    have k0 : (0 : Int) ≤ (k : Int) := by omega
    clear hk hr hy hb
    by_cases hlt : k < 8
    ·obtain ⟨x, hx⟩ : ∃ x, M8[k]? = some x := ⟨_, List.getElem?_eq_getElem (by rw [HD8.out]; exact hlt)⟩
     obtain ⟨ab, ao, rfl, hcc⟩ := YY.out.2.2 (by decide)
     have cx := hcc k x hx
     have i1 : (k : Int) < 8 := by omega
     have i3 : 120 + (k : Int) < 128 := by omega
     have i4 : (0 : Int) ≤ 120 + (k : Int) := by omega
     have i5 : IntKind.i64.wrap (120 + (k : Int)) = 120 + (k : Int) := by rw [IntKind.wrap_i64]; omega
     have i6 : (120 + (k : Int)).toNat = 120 + k := by omega
     have hll : (markS p M8 k).length = 128 := by simp only [markS, List.length_append, List.length_take, List.length_replicate, HPL.out, HD8.out]; omega
     obtain ⟨y, hy⟩ : ∃ y, (bcs (markS p M8 k))[120 + k]? = some y := ⟨_, List.getElem?_eq_getElem (by rw [bcs_length, hll]; omega)⟩
     have q0 : wr.cell? ⟨g, 120 + k, none⟩ = some y := (KK.out.cell _).trans hy
     have q1 := KK.out.frozen (120 + k)
     obtain ⟨w4, hw4⟩ : ∃ z, wr.setCell ⟨g, 120 + k, none⟩ (.int .u8 x) = z := ⟨_, rfl⟩
     have O4 := hide (show Only (fun i => i = g) wr w4 by rw [← hw4]; exact Only.cell1 _ _ _ _)
     have K4 := hide (show Blk w4 g 94 (bcs (markS p M8 (k + 1))) by
      have h9 := KK.out.set_ (120 + k) (.int .u8 x)
      rw [hw4, bcs_set, markS_step HPL.out hx hlt] at h9
      exact h9)
     have HLT := hide hlt
     clear hx hy hll hlt hk8 hcc
     go_wp2_with fail
     try rw [hw4]
     exact ⟨⟨k + 1, by have := HLT.out; omega, by go_num, K4.out, O4.out.blk RR.out (by have := HRG.out; omega), YY.out.keep O4.out (fun _ ad e hf => by have h1 := F6.out ad e; have h2 : ad.block = g := hf; omega), BB.out.trans (O4.out.below BB.out.size (fun i hi e => by have h9 : i = g := e; have := HRG.out; omega))⟩, by have := HLT.out; simp [intOf]; omega⟩
    ·obtain rfl : k = 8 := by omega
     clear hlt hk8
     have KF := KK.out
     rw [markS_all _ _ HD8.out] at KF
     obtain ⟨fin, hfin⟩ : ∃ z, z = p ++ M8 := ⟨_, rfl⟩
     rw [← hfin] at KF
     have HFIN := hide (show fin = slabOf (s.take 120) mark by rw [hfin, HPP.out, HM8.out]; rfl)
     have HFL := hide (show fin.length = 128 by rw [hfin, List.length_append, HPL.out, HD8.out])
     have hld := loadSlabR wr g 0 fin KF.whole HFL.out
     have hI2 := hide (isz33' fin HFL.out)
     clear KF hfin
     go_wp2_with (refine wpList_store_blk rfl 94 _ _ rfl r 0 94 (enc zeroS) (enc fin) (by rfl) (by rfl) RR.out (Nat.le_of_eq (by rw [enc_length, enc_length, HFL.out, zeroS_length])) hI2.out (enc_one _) ?_; intro w9 o9 z9 b9; rw [lay_all _ _ (by rw [enc_length, enc_length, HFL.out, zeroS_length])] at b9; simp only [Act.put])
     refine bodyPost_ret (results_cell_blk rfl _ _ r 94 _ _ (by rfl) b9 Tryz.underlying94 rfl hI2.out) rfl ⟨by rw [HFIN.out], BB.out.trans (o9.below BB.out.size (fun i hi e => by have h9 : i = r := e; have := HRG.out; omega))⟩
end
end Go.Proofs.YtjnpkcabkccaoaaGreat
