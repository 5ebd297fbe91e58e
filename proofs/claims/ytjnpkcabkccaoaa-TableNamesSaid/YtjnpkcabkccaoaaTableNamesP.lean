import Derived.Test.YtjnpkcabkccaoaaPk20
/-
  TableNames: its walk.
-/
namespace Go.Proofs.Ytjnpkcabkccaoaa
open Go.RowKit

def pB (x : Int) : PairD := ⟨[x], [], false⟩
def pG : PairD := ⟨[97], [], true⟩
def pV : PairD := ⟨[97, 98], [118], false⟩
attribute [local go_sem ↓] mkPr_fold mkPrs1_fold mkPrs2_fold
set_option maxHeartbeats 8000000 in
set_option maxRecDepth 100000 in
theorem tnames_any (w : World) : Calls Try.prog 8 #[] w fun e w' => e = .returned (.bool true) ∧ Below w.heap.size w w' := by
  have mk0 := fun w => mkPr_none w
  go_enter Try.func8, Try.ntmps8
  go_wp2_with fail
  refine (talive_any w).mono ?_
  rintro e w1 ⟨rfl, b1⟩
  have B1 := hide b1
  clear b1 mk0
  go_wp2_with fail
  refine (PParse_any w1 none 0 0 [] (Bys.nil _ _) (by decide)).mono ?_
  rintro e w2 ⟨b2, hc⟩
  rcases hc with ⟨_, rfl⟩ | ⟨_, _, _, _, h9, _⟩
  rotate_left
  · exact absurd h9 (by rw [show parseP [] = none by decide]; exact fun h => by cases h)
  have B2 := hide (Below.then_ B1.out b2)
  clear b2
  -- a pair without a key
  obtain ⟨Z, hZ⟩ : ∃ Z : PairV, Z = ⟨none, 0, 0, [], none, 0, 0, [], false⟩ := ⟨_, rfl⟩
  obtain ⟨w3, hw3⟩ : ∃ z, z = w2.alloc (.cells Z.cells.toArray 100) := ⟨_, rfl⟩
  have hm0 := mkPr_none w2
  have hm1 : (mkPrs1 #[(0, .agg #[.slice none 0 0, .slice none 0 0, .bool false])]).run Try.prog w2 = .ok (.slice (some ⟨w2.heap.size, 0, none⟩) 1 1) w3 := by
    have := mkPrs1_run w2 Z
    rw [← hw3, hZ] at this
    exact this
  have b3 := hide (show Below w2.heap.size w2 w3 by rw [hw3]; exact below_alloc (Below.refl _ _) _)
  have X3 := hide (show PairsIn w3 (some ⟨w2.heap.size, 0, none⟩) 1 [Z] from PairsIn.one (by rw [hZ]; exact ⟨Bys.nil _ _, Nat.le_refl _, Bys.nil _ _, Nat.le_refl _⟩) (by rw [hw3]; exact (Blk.new w2 100 Z.cells).whole))
  have PD3 := hide (show [Z].map PairV.d = [⟨[], [], false⟩] by rw [hZ]; rfl)
  clear hw3 hZ
  go_wp2_with fail
  clear hm0 hm1
  have hby := PBytes_any w3 (some ⟨w2.heap.size, 0, none⟩) 1 1 [Z] X3.out (by decide) (by rw [PD3.out]; decide)
  rw [PD3.out, show tbytes [⟨[], [], false⟩] = ([], 151) by decide] at hby
  refine hby.mono ?_
  rintro e w4 ⟨A4, m4, c4, rfl, t4, _⟩
  have B4 := hide (Below.then_ B2.out (Below.then_ b3.out t4.below))
  clear hby t4
  -- not in order
  obtain ⟨wa, hwa⟩ : ∃ z, z = lit w4 #[.int .u8 98] := ⟨_, rfl⟩
  obtain ⟨wb, hwb⟩ : ∃ z, z = lit wa #[.int .u8 97] := ⟨_, rfl⟩
  obtain ⟨P, hP⟩ : ∃ P : PairV, P = ⟨some ⟨w4.heap.size, 0, none⟩, 1, 1, [98], none, 0, 0, [], false⟩ := ⟨_, rfl⟩
  obtain ⟨Q, hQ⟩ : ∃ Q : PairV, Q = ⟨some ⟨w4.heap.size + 1, 0, none⟩, 1, 1, [97], none, 0, 0, [], false⟩ := ⟨_, rfl⟩
  obtain ⟨wc, hwc⟩ : ∃ z, z = wb.alloc (.cells (P.cells ++ Q.cells).toArray 100) := ⟨_, rfl⟩
  have za : wa.heap.size = w4.heap.size + 1 := by rw [hwa, lit_size]
  have zb : wb.heap.size = w4.heap.size + 1 + 1 := by rw [hwb, lit_size, za]
  have ba_ : Below w4.heap.size w4 wa := by rw [hwa]; exact lit_below _ _
  have bb_ : Below wa.heap.size wa wb := by rw [hwb]; exact lit_below _ _
  have bc_ : Below wb.heap.size wb wc := by rw [hwc]; exact below_alloc (Below.refl _ _) _
  have BC := hide (Below.then_ ba_ (Below.then_ bb_ bc_))
  have k1 := mkPr_key wa (some ⟨w4.heap.size, 0, none⟩) 1 1
  have k2 := mkPr_key wb (some ⟨w4.heap.size + 1, 0, none⟩) 1 1
  have k3 : (mkPrs2 #[(0, .agg #[.slice (some ⟨w4.heap.size, 0, none⟩) 1 1, .slice none 0 0, .bool false]), (1, .agg #[.slice (some ⟨w4.heap.size + 1, 0, none⟩) 1 1, .slice none 0 0, .bool false])]).run Try.prog wb = .ok (.slice (some ⟨w4.heap.size + 1 + 1, 0, none⟩) 2 2) wc := by
    have := mkPrs2_run wb P Q
    rw [← hwc, zb, hP, hQ] at this
    exact this
  have hca : (convert 28 28 (.slice (some ⟨w4.heap.size, 0, none⟩) 1 1)).run Try.prog (w4.alloc (.cells #[.int .u8 98] 5)) = .ok (.slice (some ⟨w4.heap.size, 0, none⟩) 1 1) wa := by rw [hwa]; exact lit_conv _ _ _ _ rfl
  have hcb : (convert 28 28 (.slice (some ⟨w4.heap.size + 1, 0, none⟩) 1 1)).run Try.prog (wa.alloc (.cells #[.int .u8 97] 5)) = .ok (.slice (some ⟨w4.heap.size + 1, 0, none⟩) 1 1) wb := by rw [hwb]; exact lit_conv _ _ _ _ za.symm
  have XC := hide (show PairsIn wc (some ⟨w4.heap.size + 1 + 1, 0, none⟩) 2 [P, Q] from PairsIn.two
    (by rw [hP]; exact ⟨((by rw [hwa]; exact lit_one w4 98 (by decide) (by decide) : Bys wa (some ⟨w4.heap.size, 0, none⟩) 1 [98]).below bb_).below bc_, Nat.le_refl _, Bys.nil _ _, Nat.le_refl _⟩)
    (by rw [hQ]; exact ⟨(by rw [hwb, ← za]; exact lit_one wa 97 (by decide) (by decide) : Bys wb (some ⟨w4.heap.size + 1, 0, none⟩) 1 [97]).below bc_, Nat.le_refl _, Bys.nil _ _, Nat.le_refl _⟩)
    (by rw [hwc, ← zb]; exact (Blk.new wb 100 (P.cells ++ Q.cells)).whole))
  have PD5 := hide (show [P, Q].map PairV.d = [pB 98, pB 97] by rw [hP, hQ]; rfl)
  clear hwa hwb hwc hP hQ bb_ bc_ ba_
  go_wp2_with fail
  clear k1 k2 k3 hca hcb za zb
  have hby := PBytes_any wc (some ⟨w4.heap.size + 1 + 1, 0, none⟩) 2 2 [P, Q] XC.out (by decide) (by rw [PD5.out]; decide)
  rw [PD5.out, show tbytes [pB 98, pB 97] = ([], 151) by decide] at hby
  refine hby.mono ?_
  rintro e w5 ⟨A5, m5, c5, rfl, t5, _⟩
  have B5 := hide (Below.then_ B4.out (Below.then_ BC.out t5.below))
  clear hby t5
  -- too small a device
  go_wp2_with fail
  refine (new_any w5 1).mono ?_
  rintro e w6 ⟨b, F0, rfl, h6, b6, f6⟩
  have D6 := hide h6
  have B56 := hide b6
  have FR := hide f6
  clear h6 b6 f6
  go_wp2_with fail
  refine (TOpen_any w5 w6 b F0 _ D6.out (new_bytes 1) (by decide) B56.out FR.out).mono ?_
  rintro e w7 ⟨F7, _, _, o7, hc⟩
  rw [open_small] at hc
  rcases hc with ⟨_, rfl⟩ | ⟨T, t, g, hT, _⟩
  rotate_left
  · cases hT
  have B7 := hide (show Below w.heap.size w w7 from Below.then_ B5.out (B56.out.trans (o7.below B56.out.size (fun i hi hf => by have := FR.out i hf; omega))))
  clear o7
  -- a batch
  obtain ⟨wa, hwa⟩ : ∃ z, z = lit w7 #[.int .u8 97] := ⟨_, rfl⟩
  obtain ⟨wb, hwb⟩ : ∃ z, z = lit wa #[.int .u8 97, .int .u8 98] := ⟨_, rfl⟩
  obtain ⟨wd, hwd⟩ : ∃ z, z = lit wb #[.int .u8 118] := ⟨_, rfl⟩
  obtain ⟨P, hP⟩ : ∃ P : PairV, P = ⟨some ⟨w7.heap.size, 0, none⟩, 1, 1, [97], none, 0, 0, [], true⟩ := ⟨_, rfl⟩
  obtain ⟨Q, hQ⟩ : ∃ Q : PairV, Q = ⟨some ⟨w7.heap.size + 1, 0, none⟩, 2, 2, [97, 98], some ⟨w7.heap.size + 1 + 1, 0, none⟩, 1, 1, [118], false⟩ := ⟨_, rfl⟩
  obtain ⟨wc, hwc⟩ : ∃ z, z = wd.alloc (.cells (P.cells ++ Q.cells).toArray 100) := ⟨_, rfl⟩
  have za : wa.heap.size = w7.heap.size + 1 := by rw [hwa, lit_size]
  have zb : wb.heap.size = w7.heap.size + 1 + 1 := by rw [hwb, lit_size, za]
  have zd : wd.heap.size = w7.heap.size + 1 + 1 + 1 := by rw [hwd, lit_size, zb]
  have ba_ : Below w7.heap.size w7 wa := by rw [hwa]; exact lit_below _ _
  have bb_ : Below wa.heap.size wa wb := by rw [hwb]; exact lit_below _ _
  have bd_ : Below wb.heap.size wb wd := by rw [hwd]; exact lit_below _ _
  have bc_ : Below wd.heap.size wd wc := by rw [hwc]; exact below_alloc (Below.refl _ _) _
  have BC := hide (Below.then_ ba_ (Below.then_ bb_ (Below.then_ bd_ bc_)))
  have k1 := mkPr_gone wa (some ⟨w7.heap.size, 0, none⟩) 1 1
  have k2 := mkPr_two wd (some ⟨w7.heap.size + 1, 0, none⟩) (some ⟨w7.heap.size + 1 + 1, 0, none⟩) 2 2 1 1
  have k3 : (mkPrs2 #[(0, .agg #[.slice (some ⟨w7.heap.size, 0, none⟩) 1 1, .slice none 0 0, .bool true]), (1, .agg #[.slice (some ⟨w7.heap.size + 1, 0, none⟩) 2 2, .slice (some ⟨w7.heap.size + 1 + 1, 0, none⟩) 1 1, .bool false])]).run Try.prog wd = .ok (.slice (some ⟨w7.heap.size + 1 + 1 + 1, 0, none⟩) 2 2) wc := by
    have := mkPrs2_run wd P Q
    rw [← hwc, zd, hP, hQ] at this
    exact this
  have hca : (convert 28 28 (.slice (some ⟨w7.heap.size, 0, none⟩) 1 1)).run Try.prog (w7.alloc (.cells #[.int .u8 97] 5)) = .ok (.slice (some ⟨w7.heap.size, 0, none⟩) 1 1) wa := by rw [hwa]; exact lit_conv _ _ _ _ rfl
  have hcb : (convert 28 28 (.slice (some ⟨w7.heap.size + 1, 0, none⟩) 2 2)).run Try.prog (wa.alloc (.cells #[.int .u8 97, .int .u8 98] 5)) = .ok (.slice (some ⟨w7.heap.size + 1, 0, none⟩) 2 2) wb := by rw [hwb]; exact lit_conv _ _ _ _ za.symm
  have hcd : (convert 28 28 (.slice (some ⟨w7.heap.size + 1 + 1, 0, none⟩) 1 1)).run Try.prog (wb.alloc (.cells #[.int .u8 118] 5)) = .ok (.slice (some ⟨w7.heap.size + 1 + 1, 0, none⟩) 1 1) wd := by rw [hwd]; exact lit_conv _ _ _ _ zb.symm
  have XC := hide (show PairsIn wc (some ⟨w7.heap.size + 1 + 1 + 1, 0, none⟩) 2 [P, Q] from PairsIn.two
    (by rw [hP]; exact ⟨(((by rw [hwa]; exact lit_one w7 97 (by decide) (by decide) : Bys wa (some ⟨w7.heap.size, 0, none⟩) 1 [97]).below bb_).below bd_).below bc_, Nat.le_refl _, Bys.nil _ _, Nat.le_refl _⟩)
    (by rw [hQ]; exact ⟨((by rw [hwb, ← za]; exact lit_two wa 97 98 (by decide) (by decide) : Bys wb (some ⟨w7.heap.size + 1, 0, none⟩) 2 [97, 98]).below bd_).below bc_, Nat.le_refl _, (by rw [hwd, ← zb]; exact lit_one wb 118 (by decide) (by decide) : Bys wd (some ⟨w7.heap.size + 1 + 1, 0, none⟩) 1 [118]).below bc_, Nat.le_refl _⟩)
    (by rw [hwc, ← zd]; exact (Blk.new wd 100 (P.cells ++ Q.cells)).whole))
  have PD9 := hide (show [P, Q].map PairV.d = [pG, pV] by rw [hP, hQ]; rfl)
  clear hwa hwb hwd hwc hP hQ bb_ bc_ ba_ bd_
  go_wp2_with fail
  clear k1 k2 k3 hca hcb hcd za zb zd
  have hby := PBytes_any wc (some ⟨w7.heap.size + 1 + 1 + 1, 0, none⟩) 2 2 [P, Q] XC.out (by decide) (by rw [PD9.out]; decide)
  rw [PD9.out, show tbytes [pG, pV] = ([2, 1, 97, 0, 2, 97, 98, 1, 1, 118], 0) by decide] at hby
  refine hby.mono ?_
  rintro e w9 ⟨A9, m9, c9, rfl, t9, _⟩
  have hs := run_str w9 A9 m9 c9 _ t9.bys
  rw [show ba [2, 1, 97, 0, 2, 97, 98, 1, 1, 118] = ⟨#[2, 1, 97, 0, 2, 97, 98, 1, 1, 118]⟩ from rfl] at hs
  have B9 := hide (Below.then_ B7.out (Below.then_ BC.out t9.below))
  clear hby t9
  go_wp2_with fail
  go_ret
  exact ⟨rfl, B9.out⟩
end Go.Proofs.Ytjnpkcabkccaoaa
