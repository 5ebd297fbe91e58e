/-
  coin: outputs, read; the document's.
-/
import Derived.Test.YtfloclamdpageaaRefD
import Derived.Test.YtfloclamdpageaaPure09C
import Derived.Test.YtfloclamdpageaaCoinE
import Derived.Test.YtfloclamdpageaaRefSixD
namespace Go.Proofs.Ytfloclamdpageaa
open Go.RowKit

/-- An output, read. -/
def Rd.out (r : Rd) : OutD × Rd := if ((r.fixed 8).2.text 2000).2.err ≠ 0 then (⟨0, []⟩, ((r.fixed 8).2.text 2000).2) else (⟨i64 (r.fixed 8).1, ((r.fixed 8).2.text 2000).1⟩, ((r.fixed 8).2.text 2000).2)
theorem out_eq (r : Rd) (F : Nat) (r1 : Rd) (T : List Int) (r2 : Rd) (h1 : r.fixed 8 = (F, r1)) (h2 : r1.text 2000 = (T, r2)) : r.out = if r2.err ≠ 0 then (⟨0, []⟩, r2) else (⟨i64 F, T⟩, r2) := by
  simp only [Rd.out, h1, h2]
def OutPost (T : TypeId) (w : World) (g h : Nat) (r' : Rd) (d : OutD) (e : Ending) (w' : World) : Prop :=
  ∃ V : OutV, e = .returned (.agg #[.int .i64 V.v, .slice V.A V.n V.c]) ∧ V.d = d ∧ V.Fine w' ∧ Fr w V.A ∧ RdAt T w' g h r' ∧ Only (fun i => i = g) w w'
theorem only_set2 (w : World) (g : Nat) (a b : Value) : Only (fun i => i = g) w ((w.setCell ⟨g, 0, none⟩ a).setCell ⟨g, 1, none⟩ b) :=
  ((Only.refl (fun i => i = g) w).setCell (p := ⟨g, 0, none⟩) (.inr rfl) a).setCell (p := ⟨g, 1, none⟩) (.inr rfl) b
theorem blk_set2 {w : World} {g : Nat} {t : TypeId} {x y : Value} (h : Blk w g t [x, y]) (a b : Value) : Blk ((w.setCell ⟨g, 0, none⟩ a).setCell ⟨g, 1, none⟩ b) g t [a, b] := (h.set_ 0 a).set_ 1 b
set_option maxHeartbeats 4000000 in
set_option maxRecDepth 100000 in
theorem OutRead_any (w : World) (g h : Nat) (r : Rd) (hR : RdAt 99 w g h r) :
    Calls Try.prog 33 #[.pointer (some ⟨g, 0, none⟩)] w (OutPost 99 w g h r.out.2 r.out.1) := by
  have hgl := hR.lt.1
  have hhl := hR.lt.2
  have hne := hide (show ¬ w.heap.size = g by omega)
  have hnh := hide (show ¬ w.heap.size = h by omega)
  have hR0 := hR.below ((Below.refl _ w).alloc (Nat.le_refl _) (.cells #[.int .i64 0, .slice none 0 0] 24))
  have BZ := hide (Blk.new w 24 [.int .i64 0, .slice none 0 0])
  have O0 := hide (Only.alloc0 (F := fun i => i = g) w (.cells #[.int .i64 0, .slice none 0 0] 24))
  clear hR
  go_enter Try.func33, Try.ntmps33
  go_wp2_with fail
  refine (RFixed_any _ g h _ 8 hR0).mono ?_
  rintro e w1 ⟨rfl, hR1, o1⟩
  have hF := fixed_u64 r 8 (by obtain ⟨_, _, _, _, hB2, _⟩ := hR0; exact hB2.2.1)
  obtain ⟨F, r1, h1⟩ : ∃ F r1, r.fixed 8 = (F, r1) := ⟨_, _, rfl⟩
  rw [h1] at hR1 hF ⊢
  simp only at hR1 hF ⊢
  have hw3 := i64_wrap F (by omega) (by omega)
  have hv3 := hide (i64_range F (by omega) (by omega))
  have B1 := hide (o1.blk BZ.out hne.out)
  have O1 := hide (O0.out.trans o1 (fun _ _ h => h))
  clear BZ O0 o1 hR0
  go_wp2_with fail
  refine (RText_any _ g h _ 2000 hR1 (by decide)).mono ?_
  rintro e w2 ⟨A2, n2, c2, rfl, hB2, hc2, hf2, hR2, o2⟩
  obtain ⟨T, r2, h2⟩ : ∃ T r2, r1.text 2000 = (T, r2) := ⟨_, _, rfl⟩
  have HO := hide (out_eq r F r1 T r2 h1 h2)
  rw [h2] at hB2 hR2
  simp only at hB2 hR2
  generalize hv : i64 F = v at hw3 hv3 HO
  generalize (F : Int) = FF at hw3
  have B2 := hide ((o2.blk B1.out hne.out).alloc (.cells #[.int .i64 v, .slice A2 n2 c2] 24))
  have N2 := hide (Blk.new w2 24 [.int .i64 v, .slice A2 n2 c2])
  have O2 := hide ((O1.out.trans o2 (fun _ _ h => h)).alloc (.cells #[.int .i64 v, .slice A2 n2 c2] 24))
  have hs2 := hide (show w.heap.size < w2.heap.size from (o2.blk B1.out hne.out).lt)
  have hf2' := hide (show Fr w A2 from fun ad e => by have h1 := hf2 ad e; have h2 := O1.out.size; omega)
  have hf2b := hide (show ∀ ad, A2 = some ad → w.heap.size < ad.block from fun ad e => by have h1 := hf2 ad e; have h2 := B1.out.lt; omega)
  have hB2' := hide (hB2.alloc (.cells #[.int .i64 v, .slice A2 n2 c2] 24))
  have hR2' := hR2.below ((Below.refl _ w2).alloc (Nat.le_refl _) (.cells #[.int .i64 v, .slice A2 n2 c2] 24))
  clear B1 O1 o2 hR1 hR2 hf2 hB2 h1 h2 hv
  have f0 := B2.out.frozen 0
  have f1 := B2.out.frozen 1
  have z0 := B2.out.c0
  have z1 := B2.out.c1
  have q0 := N2.out.c0
  have q1 := N2.out.c1
  have HU := hide Try.underlying24
  have HI2 : Hid ((Try.prog.info? 24).map (·.size) = some 2) := hide (by kernel_rfl)
  go_wp2_with fail
  refine (Err_any _ g h _ hR2').mono ?_
  rintro e w3 ⟨rfl, rfl⟩
  by_cases he : r2.err = 0
  · have hO := HO.out
    rw [if_neg (fun h => h he)] at hO
    have HO2 := hide hO
    clear hO HO
    go_wp2_with fail
    have b9 := blk_set2 B2.out (.int .i64 v) (.slice A2 n2 c2)
    have o9 := only_set2 (w2.alloc (.cells #[.int .i64 v, .slice A2 n2 c2] 24)) w.heap.size (.int .i64 v) (.slice A2 n2 c2)
    refine bodyPost_ret (results_cell_blk rfl _ _ w.heap.size 24 _ _ (by rfl) b9 HU.out rfl HI2.out) rfl ⟨⟨v, A2, n2, c2, T⟩, rfl, ?_, ⟨hv3.out, hB2'.out.keep o9 (fun _ ad e hf => ?_), hc2⟩, hf2'.out, ?_, ?_⟩
    · rw [HO2.out]; rfl
    · have := hf2b.out ad e; omega
    · rw [HO2.out]; exact hR2'.keep o9 (fun e => hne.out e.symm) (fun e => hnh.out e.symm)
    · exact O2.out.trans o9 (fun i hi e => by omega)
  · have he' : (r2.err == 0) = false := by simpa using he
    have hO := HO.out
    rw [if_pos he] at hO
    have HO2 := hide hO
    clear hO HO
    go_wp2_with fail
    have b9 := blk_set2 B2.out (.int .i64 0) (.slice none 0 0)
    have o9 := only_set2 (w2.alloc (.cells #[.int .i64 v, .slice A2 n2 c2] 24)) w.heap.size (.int .i64 0) (.slice none 0 0)
    refine bodyPost_ret (results_cell_blk rfl _ _ w.heap.size 24 _ _ (by rfl) b9 HU.out rfl HI2.out) rfl ⟨⟨0, none, 0, 0, []⟩, rfl, ?_, ⟨(show (-9223372036854775808 : Int) ≤ 0 ∧ (0 : Int) ≤ 9223372036854775807 by decide), Bys.nil _ _, Nat.le_refl _⟩, Fr.none _, ?_, ?_⟩
    · rw [HO2.out]; rfl
    · rw [HO2.out]; exact hR2'.keep o9 (fun e => hne.out e.symm) (fun e => hnh.out e.symm)
    · exact O2.out.trans o9 (fun i hi e => by omega)
set_option maxHeartbeats 4000000 in
set_option maxRecDepth 100000 in
theorem refOutRead_any (w : World) (g h : Nat) (r : Rd) (hR : RdAt 55 w g h r) :
    Calls Try.prog 38 #[.pointer (some ⟨g, 0, none⟩)] w (OutPost 55 w g h r.out.2 r.out.1) := by
  have hgl := hR.lt.1
  have hhl := hR.lt.2
  have hne := hide (show ¬ w.heap.size = g by omega)
  have hnh := hide (show ¬ w.heap.size = h by omega)
  have hR0 := hR.below ((Below.refl _ w).alloc (Nat.le_refl _) (.cells #[.int .i64 0, .slice none 0 0] 24))
  have BZ := hide (Blk.new w 24 [.int .i64 0, .slice none 0 0])
  have O0 := hide (Only.alloc0 (F := fun i => i = g) w (.cells #[.int .i64 0, .slice none 0 0] 24))
  clear hR
  go_enter Try.func38, Try.ntmps38
  go_wp2_with fail
  refine (reffixedof_any _ g h _ 8 hR0).mono ?_
  rintro e w1 ⟨rfl, hR1, o1⟩
  have hF := fixed_u64 r 8 (by obtain ⟨_, _, _, _, hB2, _⟩ := hR0; exact hB2.2.1)
  obtain ⟨F, r1, h1⟩ : ∃ F r1, r.fixed 8 = (F, r1) := ⟨_, _, rfl⟩
  rw [h1] at hR1 hF ⊢
  simp only at hR1 hF ⊢
  have hw3 := i64_wrap F (by omega) (by omega)
  have hv3 := hide (i64_range F (by omega) (by omega))
  have B1 := hide (o1.blk BZ.out hne.out)
  have O1 := hide (O0.out.trans o1 (fun _ _ h => h))
  clear BZ O0 o1 hR0
  go_wp2_with fail
  refine (reftextof_any _ g h _ 2000 hR1 (by decide)).mono ?_
  rintro e w2 ⟨A2, n2, c2, rfl, hB2, hc2, hf2, hR2, o2⟩
  obtain ⟨T, r2, h2⟩ : ∃ T r2, r1.text 2000 = (T, r2) := ⟨_, _, rfl⟩
  have HO := hide (out_eq r F r1 T r2 h1 h2)
  rw [h2] at hB2 hR2
  simp only at hB2 hR2
  generalize hv : i64 F = v at hw3 hv3 HO
  generalize (F : Int) = FF at hw3
  have B2 := hide (o2.blk B1.out hne.out)
  have O2 := hide (O1.out.trans o2 (fun _ _ h => h))
  have hf2' := hide (show Fr w A2 from fun ad e => by have h1 := hf2 ad e; have h2 := O1.out.size; omega)
  have hf2b := hide (show ∀ ad, A2 = some ad → w.heap.size < ad.block from fun ad e => by have h1 := hf2 ad e; have h2 := B1.out.lt; omega)
  have HB2 := hide hB2
  have HR2 := hide hR2
  have e1 : w2.cell? ⟨g, 1, none⟩ = some (.int .i64 r2.err) := by obtain ⟨_, _, _, hb, _⟩ := hR2; exact hb.c1
  clear B1 O1 o2 hR1 hf2 h1 h2 hv hB2 hR2
  have f0 := B2.out.frozen 0
  have f1 := B2.out.frozen 1
  have z0 := B2.out.c0
  have z1 := B2.out.c1
  have HU := hide Try.underlying24
  have HI2 : Hid ((Try.prog.info? 24).map (·.size) = some 2) := hide (by kernel_rfl)
  by_cases he : r2.err = 0
  · have hO := HO.out
    rw [if_neg (fun h => h he)] at hO
    have HO2 := hide hO
    clear hO HO
    go_wp2_with fail
    have b9 := blk_set2 B2.out (.int .i64 v) (.slice A2 n2 c2)
    have o9 := only_set2 w2 w.heap.size (.int .i64 v) (.slice A2 n2 c2)
    refine bodyPost_ret (results_cell_blk rfl _ _ w.heap.size 24 _ _ (by rfl) b9 HU.out rfl HI2.out) rfl ⟨⟨v, A2, n2, c2, T⟩, rfl, ?_, ⟨hv3.out, HB2.out.keep o9 (fun _ ad e hf => ?_), hc2⟩, hf2'.out, ?_, ?_⟩
    · rw [HO2.out]; rfl
    · have := hf2b.out ad e; omega
    · rw [HO2.out]; exact HR2.out.keep o9 (fun e => hne.out e.symm) (fun e => hnh.out e.symm)
    · exact O2.out.trans o9 (fun i hi e => by omega)
  · have he' : (r2.err == 0) = false := by simpa using he
    have hO := HO.out
    rw [if_pos he] at hO
    have HO2 := hide hO
    clear hO HO
    go_wp2_with fail
    have b9 := blk_set2 B2.out (.int .i64 0) (.slice none 0 0)
    have o9 := only_set2 w2 w.heap.size (.int .i64 0) (.slice none 0 0)
    refine bodyPost_ret (results_cell_blk rfl _ _ w.heap.size 24 _ _ (by rfl) b9 HU.out rfl HI2.out) rfl ⟨⟨0, none, 0, 0, []⟩, rfl, ?_, ⟨(show (-9223372036854775808 : Int) ≤ 0 ∧ (0 : Int) ≤ 9223372036854775807 by decide), Bys.nil _ _, Nat.le_refl _⟩, Fr.none _, ?_, ?_⟩
    · rw [HO2.out]; rfl
    · rw [HO2.out]; exact HR2.out.keep o9 (fun e => hne.out e.symm) (fun e => hnh.out e.symm)
    · exact O2.out.trans o9 (fun i hi e => by omega)
end Go.Proofs.Ytfloclamdpageaa
