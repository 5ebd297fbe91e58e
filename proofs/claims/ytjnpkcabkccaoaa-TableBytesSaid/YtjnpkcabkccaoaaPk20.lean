import Derived.Test.YtjnpkcabkccaoaaPk17
import Derived.Test.YtjnpkcabkccaoaaPk13
import Derived.Test.YtjnpkcabkccaoaaPk4
/-
  table: a table that is alive.
-/
namespace Go.Proofs.Ytjnpkcabkccaoaa
open Go.RowKit

/-- A pair that has a key and a value. -/
theorem mkPr_two (w : World) (A B : Option Addr) (n c m d : Nat) : (mkPr #[(0, .slice A n c), (1, .slice B m d)]).run Try.prog w = .ok (.agg #[.slice A n c, .slice B m d, .bool false]) w := by
  have hz := zeroPr_info
  cases hq : Try.prog.info? 100 with
  | none => rw [hq] at hz; cases hz
  | some i =>
    rw [hq] at hz
    have hz' : i.zero = some (.agg zeroPr.toArray) := by simpa using hz
    have hs : ∀ t, t = 28 ∨ t = 4 → (Try.prog.info? t).map (·.size) = some 1 := by
      rintro t (rfl | rfl) <;> kernel_rfl
    have h28 := fun w => run_size (P := Try.prog) (hs 28 (.inl rfl)) w
    have h4 := fun w => run_size (P := Try.prog) (hs 4 (.inr rfl)) w
    unfold mkPr Instr.build
    simp only [Sem.run_bind, run_zero hq hz', Result.andThen_ok, run_underlying Try.underlying100]
    simp [h28, h4, Instr.fill, Value.cells, zeroPr]
theorem PairsIn.one {w : World} {g : Nat} {p : PairV} (h : p.Fine w) (hr : w.rangeAt g 0 p.cells) : PairsIn w (some ⟨g, 0, none⟩) 1 [p] :=
  ⟨rfl, fun a ha => by rw [List.mem_singleton.1 ha]; exact h, fun _ => ⟨g, 0, rfl, fun i a ha => by
    rcases i with _ | i
    · simp at ha; subst ha; simpa using hr
    · simp at ha⟩⟩
attribute [local go_sem ↓] mkPr_fold mkPrs1_fold
set_option maxHeartbeats 8000000 in
set_option maxRecDepth 100000 in
theorem talive_any (w : World) : Calls Try.prog 62 #[] w fun e w' => e = .returned (.bool true) ∧ Below w.heap.size w w' := by
  obtain ⟨d1, d2, d3, l1, l2, l3, e1, e2, e3, e4, e5⟩ := table_alive
  have E1 := hide e1
  have E2 := hide e2
  have E3 := hide e3
  have E4 := hide e4
  have E5 := hide e5
  have G1 := hide (show Grew (newDev 20) d1 1700 by have h := openT_grew (newDev 20) (by rw [told_new]; intro p hp; cases hp); rwa [e1] at h)
  have OK1 := hide (openT_some (newDev_good 20) (t := ⟨l1, []⟩) (by rw [e1])).1
  clear e1 e2 e3 e4 e5
  go_enter Try.func62, Try.ntmps62
  go_wp2_with fail
  refine (new_any w 20).mono ?_
  rintro e w1 ⟨b, F0, rfl, h1, b1, f1⟩
  have D1 := hide h1
  have B1 := hide b1
  have FR := hide f1
  clear h1 b1 f1
  go_wp2_with fail
  refine (TOpen_any w w1 b F0 _ D1.out (new_bytes 20) (by decide) B1.out FR.out).mono ?_
  rintro e w2 ⟨F1, hD, hF, ho, hc⟩
  rw [E1.out] at hD hc
  rcases hc with ⟨h9, _⟩ | ⟨T, t, g, hT, rfl, ht, hg, hW⟩
  · cases h9
  have hT' : (⟨l1, []⟩ : TableD) = T := by injection hT
  subst hT'
  have D2 := hide hD
  have W2 := hide hW
  have FF1 := hide hF
  have O2 := hide ho
  have HTG := hide (show w1.heap.size ≤ t ∧ w1.heap.size ≤ g from ⟨ht, hg⟩)
  have B2 := hide (show Below w.heap.size w w2 from B1.out.trans (ho.below B1.out.size (fun i hi hf => by have := FR.out i hf; omega)))
  have FR1 := hide (show ∀ i, F1 i → w.heap.size ≤ i from fun i hi => by
    rcases hF i hi with h9 | h9
    · exact FR.out i h9
    · have := B1.out.size; omega)
  clear hD hF ho hT ht hg hW
  obtain ⟨wa, hwa⟩ : ∃ z, z = w2.alloc (.cells #[.int .u8 97] 5 (1, 2)) := ⟨_, rfl⟩
  obtain ⟨wb, hwb⟩ : ∃ z, z = wa.alloc (.cells #[.int .u8 49] 5 (1, 2)) := ⟨_, rfl⟩
  obtain ⟨P, hP⟩ : ∃ P : PairV, P = ⟨some ⟨w2.heap.size, 0, none⟩, 1, 1, [97], some ⟨w2.heap.size + 1, 0, none⟩, 1, 1, [49], false⟩ := ⟨_, rfl⟩
  obtain ⟨wc, hwc⟩ : ∃ z, z = wb.alloc (.cells P.cells.toArray 100) := ⟨_, rfl⟩
  have za : wa.heap.size = w2.heap.size + 1 := by rw [hwa]; simp
  have zb : wb.heap.size = w2.heap.size + 1 + 1 := by rw [hwb]; simp [za]
  have ba_ : Below w2.heap.size w2 wa := by rw [hwa]; exact below_alloc (Below.refl _ _) _
  have bb_ : Below wa.heap.size wa wb := by rw [hwb]; exact below_alloc (Below.refl _ _) _
  have bc_ : Below wb.heap.size wb wc := by rw [hwc]; exact below_alloc (Below.refl _ _) _
  have BC := hide (Below.then_ ba_ (Below.then_ bb_ bc_))
  have PF := hide (show P.Fine wc by
    rw [hP]
    refine ⟨?_, Nat.le_refl _, ?_, Nat.le_refl _⟩
    · exact ((by rw [hwa]; exact one_mark w2 97 (by decide) (by decide) : Bys wa (some ⟨w2.heap.size, 0, none⟩) 1 [97]).below bb_).below bc_
    · exact (by rw [hwb, ← za]; exact one_mark wa 49 (by decide) (by decide) : Bys wb (some ⟨w2.heap.size + 1, 0, none⟩) 1 [49]).below bc_)
  have PR := hide (show wc.rangeAt (w2.heap.size + 1 + 1) 0 P.cells by rw [hwc, ← zb]; exact (Blk.new wb 100 P.cells).whole)
  have hmk := mkPr_two wb (some ⟨w2.heap.size, 0, none⟩) (some ⟨w2.heap.size + 1, 0, none⟩) 1 1 1 1
  have hmks : (mkPrs1 #[(0, .agg #[.slice (some ⟨w2.heap.size, 0, none⟩) 1 1, .slice (some ⟨w2.heap.size + 1, 0, none⟩) 1 1, .bool false])]).run Try.prog wb = .ok (.slice (some ⟨w2.heap.size + 1 + 1, 0, none⟩) 1 1) wc := by
    have := mkPrs1_run wb P
    rw [← hwc, zb, hP] at this
    exact this
  have PD := hide (show [P].map PairV.d = [pA] by rw [hP]; rfl)
  have hca : (convert 28 28 (.slice (some ⟨w2.heap.size, 0, none⟩) 1 1)).run Try.prog (w2.alloc (.cells #[.int .u8 97] 5)) = .ok (.slice (some ⟨w2.heap.size, 0, none⟩) 1 1) wa := by
    rw [hwa]
    exact Joins.run_convert_bytes_const_at (P := Try.prog) w2 28 5 #[.int .u8 97] 1 1 w2.heap.size rfl Try.underlying28 Try.underlying5
  have hcb : (convert 28 28 (.slice (some ⟨w2.heap.size + 1, 0, none⟩) 1 1)).run Try.prog (wa.alloc (.cells #[.int .u8 49] 5)) = .ok (.slice (some ⟨w2.heap.size + 1, 0, none⟩) 1 1) wb := by
    rw [hwb]
    exact Joins.run_convert_bytes_const_at (P := Try.prog) wa 28 5 #[.int .u8 49] 1 1 (w2.heap.size + 1) za.symm Try.underlying28 Try.underlying5
  clear hwa hwb hwc hP bb_ bc_ ba_
  go_wp2_with fail
  clear hmk hmks hca hcb zb
  have hap := Apply_any w wc t g b F1 d1 ⟨l1, []⟩ (some ⟨w2.heap.size + 1 + 1, 0, none⟩) 1 1 [P] (W2.out.under BC.out) OK1.out (G1.out.bytes (new_bytes 20)) (by have h9 := G1.out.many; have h8 : (newDev 20).written.length = 0 := rfl; omega) (PairsIn.one PF.out PR.out) (Nat.le_refl _) (by decide) (by rw [PD.out]; decide)
  rw [PD.out, E2.out] at hap
  refine hap.mono ?_
  rintro e w3 ⟨rfl, F2, hW3, hF2, o3⟩
  obtain ⟨A3, k3, c3, xs3, hG3⟩ := hW3
  have D3 := hide hG3.log.dev
  have B3 := hide hG3.log.below
  have FR2 := hide hG3.log.fresh
  have G2 := hide (show Grew d1 d2 2600 by
    have h := applyT_grew d1 ⟨l1, []⟩ [pA] (by intro p hp; cases hp) (by intro p hp; rw [List.mem_singleton.1 hp]; exact ⟨by intro x hx; rw [List.mem_singleton.1 hx]; decide, by intro x hx; rw [List.mem_singleton.1 hx]; decide⟩)
    rwa [E2.out] at h)
  have HB2 := hide (G2.out.bytes (G1.out.bytes (new_bytes 20)))
  have HW2 := hide (show d2.written.length ≤ 5000 by have h9 := G1.out.many; have h8 : (newDev 20).written.length = 0 := rfl; have h7 := G2.out.many; omega)
  clear hG3 hF2 o3 hap
  go_wp2_with fail
  refine (restart_any w3 b F2 d2 none 0 0 [] D3.out (by have := HW2.out; omega) (Bys.nil _ _) (fun h => absurd h (by decide)) (by decide)).mono ?_
  rintro e w4 ⟨rfl, F3, hD4, o4, hF4⟩
  rw [E3.out] at hD4
  have D4 := hide hD4
  have B4 := hide (show Below w.heap.size w w4 from B3.out.trans (o4.below B3.out.size (fun i hi hf => by have := FR2.out i hf; omega)))
  have FR3 := hide (show ∀ i, F3 i → w.heap.size ≤ i from fun i hi => by
    rcases hF4 i hi with h9 | h9
    · exact FR2.out i h9
    · have := B3.out.size; omega)
  clear hD4 o4 hF4
  go_wp2_with fail
  refine (TOpen_any w w4 b F3 d2 D4.out HB2.out (by have := HW2.out; omega) B4.out FR3.out).mono ?_
  rintro e w5 ⟨F4, hD, hF, ho, hc⟩
  have OK4 := hide (openT_some (d := d2) D4.out.good (t := ⟨l3, [pA]⟩) (by rw [E4.out])).1
  rw [E4.out] at hD hc
  rcases hc with ⟨h9, _⟩ | ⟨T, t5, g5, hT, rfl, ht, hg, hW⟩
  · cases h9
  have hT' : (⟨l3, [pA]⟩ : TableD) = T := by injection hT
  subst hT'
  have W5 := hide hW
  have B5 := hide (show Below w.heap.size w w5 by
    obtain ⟨_, _, _, _, hG5⟩ := hW
    exact hG5.log.below)
  clear hD hF ho hT ht hg hW
  obtain ⟨w6, hw6⟩ : ∃ z, z = w5.alloc (.cells #[.int .u8 97] 5 (1, 2)) := ⟨_, rfl⟩
  have b6 : Below w5.heap.size w5 w6 := by rw [hw6]; exact below_alloc (Below.refl _ _) _
  have Y6 := hide (show Bys w6 (some ⟨w5.heap.size, 0, none⟩) 1 [97] by rw [hw6]; exact one_mark w5 97 (by decide) (by decide))
  have hca : (convert 28 28 (.slice (some ⟨w5.heap.size, 0, none⟩) 1 1)).run Try.prog (w5.alloc (.cells #[.int .u8 97] 5)) = .ok (.slice (some ⟨w5.heap.size, 0, none⟩) 1 1) w6 := by
    rw [hw6]
    exact Joins.run_convert_bytes_const_at (P := Try.prog) w5 28 5 #[.int .u8 97] 1 1 w5.heap.size rfl Try.underlying28 Try.underlying5
  have B6 := hide (Below.then_ B5.out b6)
  have W6 := hide (W5.out.under b6)
  clear hw6 b6
  go_wp2_with fail
  clear hca
  refine (Get_any w w6 t5 g5 b F4 d3 ⟨l3, [pA]⟩ W6.out OK4.out (some ⟨w5.heap.size, 0, none⟩) 1 1 [97] Y6.out (Nat.le_refl _)).mono ?_
  rintro e w7 ⟨b7, hc⟩
  rcases hc with ⟨h9, _⟩ | ⟨p, A7, n7, c7, h9, hp, rfl, hB7, hc7⟩
  · exact absurd (show foundP [pA] [97] = false from h9) (by decide)
  have hpp : pA = p := by
    have h8 : ([pA] : List PairD)[placeP [pA] [97]]? = some p := hp
    rw [show placeP [pA] [97] = 0 by decide] at h8
    simpa using h8
  subst hpp
  have Y7 := hide (show Bys w7 A7 n7 [49] from hB7)
  have B7 := hide (Below.then_ B6.out b7)
  have W7 := hide (W6.out.under b7)
  clear h9 hp hB7 hc7 b7
  obtain ⟨w8, hw8⟩ : ∃ z, z = w7.alloc (.cells #[.int .u8 98] 5 (1, 2)) := ⟨_, rfl⟩
  have b8 : Below w7.heap.size w7 w8 := by rw [hw8]; exact below_alloc (Below.refl _ _) _
  have Y8 := hide (show Bys w8 (some ⟨w7.heap.size, 0, none⟩) 1 [98] by rw [hw8]; exact one_mark w7 98 (by decide) (by decide))
  have hcb : (convert 28 28 (.slice (some ⟨w7.heap.size, 0, none⟩) 1 1)).run Try.prog (w7.alloc (.cells #[.int .u8 98] 5)) = .ok (.slice (some ⟨w7.heap.size, 0, none⟩) 1 1) w8 := by
    rw [hw8]
    exact Joins.run_convert_bytes_const_at (P := Try.prog) w7 28 5 #[.int .u8 98] 1 1 w7.heap.size rfl Try.underlying28 Try.underlying5
  have B8 := hide (Below.then_ B7.out b8)
  have W8 := hide (W7.out.under b8)
  have Z8 := hide (Y7.out.below b8)
  clear hw8 b8
  go_wp2_with fail
  clear hcb
  refine (Get_any w w8 t5 g5 b F4 d3 ⟨l3, [pA]⟩ W8.out OK4.out (some ⟨w7.heap.size, 0, none⟩) 1 1 [98] Y8.out (Nat.le_refl _)).mono ?_
  rintro e w9 ⟨b9, hc⟩
  rcases hc with ⟨h9, rfl⟩ | ⟨p, A9, n9, c9, h9, _⟩
  · have B9 := hide (Below.then_ B8.out b9)
    have W9 := hide (W8.out.under b9)
    have z9 := run_str w9 A7 n7 c7 [49] (Z8.out.below b9)
    rw [show ba [49] = ⟨#[49]⟩ from rfl] at z9
    have hcell := hide (show w9.cell? ⟨t5, 0, none⟩ = some (.pointer (some ⟨g5, 0, none⟩)) by
      obtain ⟨_, _, _, _, hG⟩ := W9.out
      exact hG.cells.1)
    have y0 := hcell.out
    have HRD := hide (show Calls Try.prog 109 #[.pointer (some ⟨g5, 0, none⟩)] w9 fun e w' => e = .returned (.bool true) ∧ w9 = w' by
      obtain ⟨_, _, _, _, hG⟩ := W9.out
      have h8 := Ready_any w9 g5 b l3 hG.log.log
      rwa [E5.out] at h8)
    clear h9 b9
    go_wp2_with fail
    refine HRD.out.mono ?_
    rintro e wz ⟨rfl, rfl⟩
    clear y0
    go_wp2_with fail
    refine (TAll_any w w9 t5 g5 b F4 d3 ⟨l3, [pA]⟩ W9.out OK4.out).mono ?_
    rintro e wq ⟨Aq, k, cq, zs, rfl, hz, hr, bq⟩
    obtain rfl : k = 1 := by
      have h8 := congrArg List.length hz
      rw [List.length_map, hr.len] at h8
      exact h8
    have BQ := hide (Below.then_ B9.out bq)
    clear hz hr bq
    go_wp2_with fail
    go_ret
    exact ⟨rfl, BQ.out⟩
  · exact absurd (show foundP [pA] [98] = true from h9) (by decide)
end Go.Proofs.Ytjnpkcabkccaoaa
