/- Lemmas and walks for TableRuns, packed. -/
import Derived.Test.YtjnpkcabkccaoaaGreatQ22
import Derived.Test.YtjnpkcabkccaoaaGreatQ20
set_option maxRecDepth 100000
set_option maxHeartbeats 16000000
namespace Go.Proofs.YtjnpkcabkccaoaaGreat
open Go.RowKit
section
theorem results_tmp4 {P : Program} {fn : Func} {t u v x : Tmp} (h : fn.results = #[.tmp t, .tmp u, .tmp v, .tmp x]) (tmps : Array Value) (w : World) :
  (results fn tmps).run P w = .ok (.tuple #[tmps.getD t undef, tmps.getD u undef, tmps.getD v undef, tmps.getD x undef]) w := by
 simp [results, h]
def logCells (b : Nat) (l : LogD) : List Value := .pointer (some ⟨b, 0, none⟩) :: .int .i64 (l.half : Int) :: .int .i64 l.at_ :: .int .u64 (l.mark : Int) :: (bcs l.ward ++ [.bool l.ready])
structure LogAt (w : World) (g b : Nat) (l : LogD) : Prop where
 blk : Blk w g 106 (logCells b l)
 len : l.ward.length = 32
 byt : Byt l.ward
 half : l.half ≤ 1
 mark : l.mark < 18446744073709551616
namespace LogAt
variable {w w' : World} {g b : Nat} {l : LogD}
theorem under (h : LogAt w g b l) (hb : Below w.heap.size w w') : LogAt w' g b l := ⟨h.blk.under hb, h.len, h.byt, h.half, h.mark⟩
theorem keep (h : LogAt w g b l) {F : Nat → Prop} (ho : Only F w w') (hg : ¬ F g) : LogAt w' g b l := ⟨ho.blk h.blk hg, h.len, h.byt, h.half, h.mark⟩
theorem cd (h : LogAt w g b l) : w.cell? ⟨g, 0, none⟩ = some (.pointer (some ⟨b, 0, none⟩)) := by rw [h.blk.cell]; rfl
theorem chalf (h : LogAt w g b l) : w.cell? ⟨g, 1, none⟩ = some (.int .i64 (l.half : Int)) := by rw [h.blk.cell]; rfl
theorem cat (h : LogAt w g b l) : w.cell? ⟨g, 2, none⟩ = some (.int .i64 l.at_) := by rw [h.blk.cell]; rfl
theorem cmark (h : LogAt w g b l) : w.cell? ⟨g, 3, none⟩ = some (.int .u64 (l.mark : Int)) := by rw [h.blk.cell]; rfl
theorem cready (h : LogAt w g b l) : w.cell? ⟨g, 36, none⟩ = some (.bool l.ready) := by
 rw [h.blk.cell, logCells]
 show (bcs l.ward ++ [Value.bool l.ready])[32]? = _
 rw [List.getElem?_append_right (by rw [bcs_length, h.len]; exact Nat.le_refl _), bcs_length, h.len]; rfl
theorem ward (h : LogAt w g b l) : w.rangeAt g 4 (bcs l.ward) := h.blk.range 4 _ fun j v hv => by
 rw [logCells, show 4 + j = j + 1 + 1 + 1 + 1 by omega]
 show (bcs l.ward ++ [Value.bool l.ready])[j]? = _
 rw [List.getElem?_append_left (List.getElem?_eq_some_iff.1 hv).1, hv]
end LogAt
theorem logCells_len {b : Nat} {l : LogD} (h : l.ward.length = 32) : (logCells b l).length = 37 := by simp [logCells, bcs_length, h]
theorem log_setReady {b : Nat} {l : LogD} (h : l.ward.length = 32) (v : Bool) : (logCells b l).set 36 (.bool v) = logCells b { l with ready := v } := by
 rw [logCells, logCells]
 show _ :: _ :: _ :: _ :: (bcs l.ward ++ [Value.bool l.ready]).set 32 (.bool v) = _
 rw [List.set_append_right _ _ (by rw [bcs_length, h]; exact Nat.le_refl _), bcs_length, h]; rfl
theorem openAt_ok (half : Nat) : (openAt half).ward.length = 32 ∧ Byt (openAt half).ward := ⟨rfl, fun x hx => by have := List.eq_of_mem_replicate hx; omega⟩
def mkL (parts : Array (Nat × Value)) : Sem Value := Instr.build 106 parts
theorem mkL_fold (parts : Array (Nat × Value)) : Instr.build 106 parts = mkL parts := rfl
theorem mkL_open (b : Nat) (w : World) : (mkL #[(0, .pointer (some ⟨b, 0, none⟩)), (1, .int .i64 1)]).run Tryz.prog w = .ok (.agg (logCells b (openAt 1)).toArray) w := by kernel_rfl
theorem slice_tail (A : Option Addr) (m c : Nat) (hm : 1 ≤ m) (hc : m ≤ c) : ∃ A' : Option Addr, (∀ w : World, (Instr.slice 110 (.slice A m c) (some (.int .i64 1)) none none).run Tryz.prog w = .ok (.slice A' (m - 1) (c - 1)) w) ∧
  (∀ w : World, (Instr.sliceAt 110 (.slice A m c) (some (.int .i64 1)) none none).run Tryz.prog w = .ok (.slice A' (m - 1) (c - 1)) w) ∧
  (∀ (w : World) (xss : List (List Int)), Byss w A m xss → Byss w A' (m - 1) xss.tail) := by
 have hel : Tryz.prog.elem 110 = 23 := by kernel_rfl
 have hu : Tryz.prog.underlying 110 = some (.slice (Tryz.prog.elem 110)) := by rw [hel]; exact Tryz.underlying110
 have hsz : (Tryz.prog.info? 23).map (·.size) = some 1 := by kernel_rfl
 have h1 : ∀ w : World, (Instr.slice 110 (.slice A m c) (some (.int .i64 1)) none none).run Tryz.prog w = .ok (.slice (if c = 1 then A else A.map (·.add 1)) (m - 1) (c - 1)) w := fun w => by
  rw [run_slice_l w _ A m c hu .i64 1 (by omega) (by omega), hel, run_size hsz w]
  by_cases h : c = 1
  ·simp [Result.andThen, sliced, h]
  ·simp [Result.andThen, sliced, h]
 refine ⟨if c = 1 then A else A.map (·.add 1), h1, fun w => ?_, fun w xss hB => ?_⟩
 ·rw [run_sliceAt_slice w _ _ _ _ _ hu]; exact h1 w
 ·refine ⟨by rw [List.length_tail, hB.1], fun h0 => ?_⟩
  obtain ⟨b, off, e, hr⟩ := hB.2 (by omega)
  subst e
  have e2 : (some ⟨b, off, none⟩ : Option Addr).map (fun x => x.add 1) = some ⟨b, off + 1, none⟩ := by simp only [Option.map_some, Addr.add_mid]
  rw [if_neg (by omega), e2]
  refine ⟨b, off + 1, rfl, fun j bs hj => ?_⟩
  have := hr (j + 1) bs (by rw [← hj, List.getElem?_tail])
  rwa [show off + (j + 1) = off + 1 + j by omega] at this
def OpenPost (w : World) (b : Nat) (o : Nat × List (List Int)) (e : Ending) (w' : World) : Prop :=
 ∃ (g B0 : Nat) (img recs : Value), e = .returned (.tuple #[.pointer (some ⟨g, 0, none⟩), img, recs, .bool (decide (o.2 ≠ []))]) ∧ LogAt w' g b (openAt o.1) ∧ w.heap.size ≤ g ∧ g < B0 ∧ B0 ≤ w'.heap.size ∧ Below w.heap.size w w' ∧
  ((o.2 = [] ∧ img = .slice none 0 0 ∧ recs = .slice none 0 0) ∨
   ∃ (A : Option Addr) (n c : Nat) (R : Option Addr) (m d : Nat) (x : List Int) (xs : List (List Int)), img = .slice A n c ∧ recs = .slice R m d ∧ o.2 = x :: xs ∧ n ≤ c ∧ m ≤ d ∧ m ≤ 300000 ∧ ∀ w'', Only (fun i => i < B0) w' w'' → Bys w'' A n x ∧ Byss w'' R m xs)
theorem openL_eq (d : Dev) : openL d = if 0 < (stands d 0).2.length ∧ ((stands d 1).2.length = 0 ∨ (stands d 1).1 < (stands d 0).1) then (0, (stands d 0).2) else (1, (stands d 1).2) := rfl
attribute [local go_sem ↓] mkL_fold
attribute [local go_sem] mkL_open
theorem Open_any (w : World) (b : Nat) (F : Nat → Prop) (d : Dev) (h : DevRep w b F d) (hb : d.Bytes) :
  Calls Tryz.prog 43 #[.pointer (some ⟨b, 0, none⟩)] w (OpenPost w b (openL d)) := by
 have HB := hide hb
 have D0 := hide h
 obtain ⟨w1, hw1⟩ : ∃ z, z = w.alloc (.cells (logCells b (openAt 1)).toArray 106) := ⟨_, rfl⟩
 have B1 := hide (show Below w.heap.size w w1 by rw [hw1]; exact below_alloc (Below.refl _ _) _)
 have L1 := hide (show LogAt w1 w.heap.size b (openAt 1) from ⟨by rw [hw1]; exact Blk.new w _ _, rfl, (openAt_ok 1).2, Nat.le_refl _, by show 0 < 18446744073709551616; decide⟩)
 have D1 := hide (D0.out.under B1.out)
 have HOE := hide (openL_eq d)
 clear h hb
 go_enter Tryz.func43, Tryz.ntmps43
 go_wp2_with fail
 rw [← hw1]
 clear hw1
 refine (stands_any w1 b F d 0 (by omega) D1.out HB.out).mono ?_
 rintro e w2 ⟨Aa, na, ca, va, rfl, ra, hda, b2, hna⟩
 obtain ⟨GA, hGA⟩ : ∃ G, G = (stands d 0).1 := ⟨_, rfl⟩
 obtain ⟨LA, hLA⟩ : ∃ L, L = (stands d 0).2 := ⟨_, rfl⟩
 rw [← hLA] at hda
 have hoe := HOE.out
 rw [← hGA, ← hLA] at hoe
 rw [← hGA]
 have HO2 := hide hoe
 have RA := hide ra
 have DA := hide hda
 have B2 := hide b2
 have D2 := hide (D1.out.under b2)
 have L2 := hide (L1.out.under b2)
 have NA := hide hna
 clear hGA hLA hoe HOE ra hda b2 hna
 go_wp2_with fail
 refine (stands_any w2 b F d 1 (by omega) D2.out HB.out).mono ?_
 rintro e w3 ⟨Ab, nb, cb, vb, rfl, rb, hdb, b3, hnb⟩
 obtain ⟨GB, hGB⟩ : ∃ G, G = (stands d 1).1 := ⟨_, rfl⟩
 obtain ⟨LB, hLB⟩ : ∃ L, L = (stands d 1).2 := ⟨_, rfl⟩
 rw [← hLB] at hdb
 have hoe := HO2.out
 rw [← hGB, ← hLB] at hoe
 rw [← hGB]
 have hla : LA.length = na := by rw [← DA.out, List.length_map, RA.out.len]
 have hlb : LB.length = nb := by rw [← hdb, List.length_map, rb.len]
 rw [hla, hlb] at hoe
 have HO3 := hide hoe
 have RA3 := hide (RA.out.under b3)
 have RB3 := hide (rb.lower B2.out.size)
 have DB := hide hdb
 have L3 := hide (L2.out.under b3)
 have NB := hide hnb
 have B03 := hide (Below.then_ B1.out (Below.then_ B2.out b3))
 have S13 := hide (show w1.heap.size ≤ w3.heap.size by have := B2.out.size; have := b3.size; omega)
 have G1 := hide (show w.heap.size < w1.heap.size from L1.out.blk.lt)
 clear hGB hLB hoe HO2 rb hdb b3 hla hlb hnb
 by_cases hC : 0 < na ∧ (nb = 0 ∨ GB < GA)
 ·have HOP := hide (show openL d = (0, LA) by rw [HO3.out, if_pos hC])
  obtain ⟨hc1, hc2⟩ := hC
  have i1 : (0 : Int) < (na : Int) := by omega
  have f1 := L3.out.blk.frozen 1
  have c1 := L3.out.chalf
  obtain ⟨w4, hw4⟩ : ∃ z, z = w3.setCell ⟨w.heap.size, 1, none⟩ (.int .i64 0) := ⟨_, rfl⟩
  have O4 := hide (show Only (fun i => i = w.heap.size) w3 w4 by rw [hw4]; exact Only.cell1 w3 w.heap.size 1 _)
  have L4 := hide (show LogAt w4 w.heap.size b (openAt 0) from ⟨by rw [hw4]; exact L3.out.blk.set_ 1 (.int .i64 0), rfl, (openAt_ok 0).2, Nat.zero_le _, by show 0 < 18446744073709551616; decide⟩)
  have RX := hide (RA3.out.step O4.out (fun i _ h => by have h9 : i = w.heap.size := h; have := G1.out; omega))
  have S14 := hide (show w1.heap.size ≤ w4.heap.size by have := O4.out.size; have := S13.out; omega)
  have B04 := hide (O4.out.under B03.out fun i hi => by have h9 : i = w.heap.size := hi; omega)
  have DX := hide DA.out
  have HCI := hide (show 0 < na from hc1)
  have hgo : (nb = 0) ∨ (¬ nb = 0 ∧ GB < GA) := by omega
  clear HO3 hc2
  rcases hgo with h2 | ⟨h2, h3⟩
  ·subst h2
   go_wp2_with fail
   rw [← hw4]
   clear hw4 f1 c1
   obtain ⟨v0, vs, hv⟩ : ∃ v0 vs, va = v0 :: vs := by
    cases h9 : va with
    | nil => have h8 := RX.out.len; rw [h9] at h8; have := HCI.out; simp at h8; omega
    | cons a l => exact ⟨a, l, rfl⟩
   subst hv
   obtain ⟨rb, off, hA, hrow⟩ := RX.out.in_.2.2 HCI.out
   have hc0 := hrow 0 v0 rfl 0 v0.val rfl
   rw [show off + 0 * 1 + 0 = off by omega] at hc0
   have C0 := hide (show w4.cell? ⟨rb, off, none⟩ = some (.slice v0.A v0.n v0.c) from hc0)
   obtain ⟨A8, hs8, hs8a, hB8⟩ := slice_tail Aa na ca HCI.out RX.out.cap
   have HB8 := hide hB8
   have HA := hide hA
   have HL := hide (show LA = v0.bs :: vs.map BV.bs by rw [← DX.out]; rfl)
   clear hB8 hrow hc0
   subst hA
   refine wp_region_held_drew (S := fun w' => w'.cell? ⟨rb, off, none⟩ = some (.slice v0.A v0.n v0.c)) (by kernel_rfl) (cell_under (Below.refl _ w4).drew C0.out) (fun hSA0 => ?_)
   obtain ⟨w4d, hwA⟩ : ∃ x, x = w4.drew := ⟨_, rfl⟩
   have Bd := hide (show Below w4.heap.size w4 w4d by rw [hwA]; exact (Below.refl _ w4).drew)
   rw [← hwA] at hSA0 ⊢
   clear hwA
   refine tq 0 rfl hSA0 ?_
   refine tq 1 rfl hSA0 ?_
   refine tq 2 rfl hSA0 ?_
   (refine tq 3 rfl hSA0 ?_ (fun w' hSw => by have z1 : w'.cell? ⟨rb, off, none⟩ = some (.slice v0.A v0.n v0.c) := hSw; go_simp; try with_reducible rfl))
   refine tq 4 rfl hSA0 ?_
   refine tq 5 rfl hSA0 ?_
   refine tq 6 rfl hSA0 ?_
   refine tq 7 rfl hSA0 ?_
   refine tq 8 rfl hSA0 ?_
   refine tq 9 rfl hSA0 ?_
   refine wpAnyH_done (by kernel_rfl) ?_ _
   clear hSA0
   go_wp2_with fail
   refine bodyPost_ret (results_tmp4 rfl _ _) rfl ⟨w.heap.size, w1.heap.size, _, _, by rw [HOP.out, HL.out]; rfl, by rw [HOP.out]; exact L4.out.under Bd.out, Nat.le_refl _, G1.out, Nat.le_trans S14.out Bd.out.size, Below.then_ B04.out Bd.out, .inr ⟨v0.A, v0.n, v0.c, A8, na - 1, ca - 1, v0.bs, vs.map BV.bs, rfl, rfl, by rw [HOP.out]; exact HL.out, (RX.out.fine v0 (by simp)).cap, by have := RX.out.cap; omega, by have := NA.out; omega, fun w'' ho => ?_⟩⟩
   have hr := (RX.out.under Bd.out).step ho (fun i _ h => h)
   exact ⟨(hr.fine v0 (by simp)).bys, by have h9 := HB8.out w'' _ hr.byss; simpa using h9⟩
  ·have i2 : ((nb : Int) == 0) = false := by simp; omega
   have i3 : (GB : Int) < (GA : Int) := by omega
   go_wp2_with fail
   rw [← hw4]
   clear hw4 f1 c1
   obtain ⟨v0, vs, hv⟩ : ∃ v0 vs, va = v0 :: vs := by
    cases h9 : va with
    | nil => have h8 := RX.out.len; rw [h9] at h8; have := HCI.out; simp at h8; omega
    | cons a l => exact ⟨a, l, rfl⟩
   subst hv
   obtain ⟨rb, off, hA, hrow⟩ := RX.out.in_.2.2 HCI.out
   have hc0 := hrow 0 v0 rfl 0 v0.val rfl
   rw [show off + 0 * 1 + 0 = off by omega] at hc0
   have C0 := hide (show w4.cell? ⟨rb, off, none⟩ = some (.slice v0.A v0.n v0.c) from hc0)
   obtain ⟨A8, hs8, hs8a, hB8⟩ := slice_tail Aa na ca HCI.out RX.out.cap
   have HB8 := hide hB8
   have HA := hide hA
   have HL := hide (show LA = v0.bs :: vs.map BV.bs by rw [← DX.out]; rfl)
   clear hB8 hrow hc0
   subst hA
   refine wp_region_held_drew (S := fun w' => w'.cell? ⟨rb, off, none⟩ = some (.slice v0.A v0.n v0.c)) (by kernel_rfl) (cell_under (Below.refl _ w4).drew C0.out) (fun hSA0 => ?_)
   obtain ⟨w4d, hwA⟩ : ∃ x, x = w4.drew := ⟨_, rfl⟩
   have Bd := hide (show Below w4.heap.size w4 w4d by rw [hwA]; exact (Below.refl _ w4).drew)
   rw [← hwA] at hSA0 ⊢
   clear hwA
   refine tq 0 rfl hSA0 ?_
   refine tq 1 rfl hSA0 ?_
   refine tq 2 rfl hSA0 ?_
   (refine tq 3 rfl hSA0 ?_ (fun w' hSw => by have z1 : w'.cell? ⟨rb, off, none⟩ = some (.slice v0.A v0.n v0.c) := hSw; go_simp; try with_reducible rfl))
   refine tq 4 rfl hSA0 ?_
   refine tq 5 rfl hSA0 ?_
   refine tq 6 rfl hSA0 ?_
   refine tq 7 rfl hSA0 ?_
   refine tq 8 rfl hSA0 ?_
   refine tq 9 rfl hSA0 ?_
   refine wpAnyH_done (by kernel_rfl) ?_ _
   clear hSA0
   go_wp2_with fail
   refine bodyPost_ret (results_tmp4 rfl _ _) rfl ⟨w.heap.size, w1.heap.size, _, _, by rw [HOP.out, HL.out]; rfl, by rw [HOP.out]; exact L4.out.under Bd.out, Nat.le_refl _, G1.out, Nat.le_trans S14.out Bd.out.size, Below.then_ B04.out Bd.out, .inr ⟨v0.A, v0.n, v0.c, A8, na - 1, ca - 1, v0.bs, vs.map BV.bs, rfl, rfl, by rw [HOP.out]; exact HL.out, (RX.out.fine v0 (by simp)).cap, by have := RX.out.cap; omega, by have := NA.out; omega, fun w'' ho => ?_⟩⟩
   have hr := (RX.out.under Bd.out).step ho (fun i _ h => h)
   exact ⟨(hr.fine v0 (by simp)).bys, by have h9 := HB8.out w'' _ hr.byss; simpa using h9⟩
 ·have HOP := hide (show openL d = (1, LB) by rw [HO3.out, if_neg hC])
  clear HO3
  by_cases hb0 : nb = 0
  ·have hna0 : na = 0 := by omega
   subst hb0
   subst hna0
   have HLB := hide (show LB = [] by rw [← DB.out]; have := RB3.out.len; rw [List.eq_nil_of_length_eq_zero this]; rfl)
   go_wp2_with fail
   refine bodyPost_ret (results_tmp4 rfl _ _) rfl ⟨w.heap.size, w1.heap.size, _, _, by rw [HOP.out, HLB.out]; rfl, by rw [HOP.out]; exact L3.out, Nat.le_refl _, G1.out, S13.out, B03.out, .inl ⟨by rw [HOP.out]; exact HLB.out, rfl, rfl⟩⟩
  ·have i2 : ((nb : Int) == 0) = false := by simp; omega
   have i4 : 0 < nb := by omega
   have L4 := hide L3.out
   have RX := hide RB3.out
   have DX := hide DB.out
   have HCI := hide (show 0 < nb by omega)
   have B04 := hide B03.out
   have S14 := hide S13.out
   obtain ⟨w4, hw4⟩ : ∃ z, z = w3 := ⟨_, rfl⟩
   by_cases hna0 : 0 < na
   ·have i1 : (0 : Int) < (na : Int) := by omega
    have i3 : ¬ (GB : Int) < (GA : Int) := by omega
    go_wp2_with fail
    rw [← hw4] at L4 RX B04 S14 ⊢
    clear hw4
    obtain ⟨v0, vs, hv⟩ : ∃ v0 vs, vb = v0 :: vs := by
     cases h9 : vb with
     | nil => have h8 := RX.out.len; rw [h9] at h8; have := HCI.out; simp at h8; omega
     | cons a l => exact ⟨a, l, rfl⟩
    subst hv
    obtain ⟨rb, off, hA, hrow⟩ := RX.out.in_.2.2 HCI.out
    have hc0 := hrow 0 v0 rfl 0 v0.val rfl
    rw [show off + 0 * 1 + 0 = off by omega] at hc0
    have C0 := hide (show w4.cell? ⟨rb, off, none⟩ = some (.slice v0.A v0.n v0.c) from hc0)
    obtain ⟨A8, hs8, hs8a, hB8⟩ := slice_tail Ab nb cb HCI.out RX.out.cap
    have HB8 := hide hB8
    have HA := hide hA
    have HL := hide (show LB = v0.bs :: vs.map BV.bs by rw [← DX.out]; rfl)
    clear hB8 hrow hc0
    subst hA
    refine wp_region_held_drew (S := fun w' => w'.cell? ⟨rb, off, none⟩ = some (.slice v0.A v0.n v0.c)) (by kernel_rfl) (cell_under (Below.refl _ w4).drew C0.out) (fun hSA0 => ?_)
    obtain ⟨w4d, hwA⟩ : ∃ x, x = w4.drew := ⟨_, rfl⟩
    have Bd := hide (show Below w4.heap.size w4 w4d by rw [hwA]; exact (Below.refl _ w4).drew)
    rw [← hwA] at hSA0 ⊢
    clear hwA
    refine tq 0 rfl hSA0 ?_
    refine tq 1 rfl hSA0 ?_
    refine tq 2 rfl hSA0 ?_
    (refine tq 3 rfl hSA0 ?_ (fun w' hSw => by have z1 : w'.cell? ⟨rb, off, none⟩ = some (.slice v0.A v0.n v0.c) := hSw; go_simp; try with_reducible rfl))
    refine tq 4 rfl hSA0 ?_
    refine tq 5 rfl hSA0 ?_
    refine tq 6 rfl hSA0 ?_
    refine tq 7 rfl hSA0 ?_
    refine tq 8 rfl hSA0 ?_
    refine tq 9 rfl hSA0 ?_
    refine wpAnyH_done (by kernel_rfl) ?_ _
    clear hSA0
    go_wp2_with fail
    refine bodyPost_ret (results_tmp4 rfl _ _) rfl ⟨w.heap.size, w1.heap.size, _, _, by rw [HOP.out, HL.out]; rfl, by rw [HOP.out]; exact L4.out.under Bd.out, Nat.le_refl _, G1.out, Nat.le_trans S14.out Bd.out.size, Below.then_ B04.out Bd.out, .inr ⟨v0.A, v0.n, v0.c, A8, nb - 1, cb - 1, v0.bs, vs.map BV.bs, rfl, rfl, by rw [HOP.out]; exact HL.out, (RX.out.fine v0 (by simp)).cap, by have := RX.out.cap; omega, by have := NB.out; omega, fun w'' ho => ?_⟩⟩
    have hr := (RX.out.under Bd.out).step ho (fun i _ h => h)
    exact ⟨(hr.fine v0 (by simp)).bys, by have h9 := HB8.out w'' _ hr.byss; simpa using h9⟩
   ·have i1 : ¬ (0 : Int) < (na : Int) := by omega
    go_wp2_with fail
    rw [← hw4] at L4 RX B04 S14 ⊢
    clear hw4
    obtain ⟨v0, vs, hv⟩ : ∃ v0 vs, vb = v0 :: vs := by
     cases h9 : vb with
     | nil => have h8 := RX.out.len; rw [h9] at h8; have := HCI.out; simp at h8; omega
     | cons a l => exact ⟨a, l, rfl⟩
    subst hv
    obtain ⟨rb, off, hA, hrow⟩ := RX.out.in_.2.2 HCI.out
    have hc0 := hrow 0 v0 rfl 0 v0.val rfl
    rw [show off + 0 * 1 + 0 = off by omega] at hc0
    have C0 := hide (show w4.cell? ⟨rb, off, none⟩ = some (.slice v0.A v0.n v0.c) from hc0)
    obtain ⟨A8, hs8, hs8a, hB8⟩ := slice_tail Ab nb cb HCI.out RX.out.cap
    have HB8 := hide hB8
    have HA := hide hA
    have HL := hide (show LB = v0.bs :: vs.map BV.bs by rw [← DX.out]; rfl)
    clear hB8 hrow hc0
    subst hA
    refine wp_region_held_drew (S := fun w' => w'.cell? ⟨rb, off, none⟩ = some (.slice v0.A v0.n v0.c)) (by kernel_rfl) (cell_under (Below.refl _ w4).drew C0.out) (fun hSA0 => ?_)
    obtain ⟨w4d, hwA⟩ : ∃ x, x = w4.drew := ⟨_, rfl⟩
    have Bd := hide (show Below w4.heap.size w4 w4d by rw [hwA]; exact (Below.refl _ w4).drew)
    rw [← hwA] at hSA0 ⊢
    clear hwA
    refine tq 0 rfl hSA0 ?_
    refine tq 1 rfl hSA0 ?_
    refine tq 2 rfl hSA0 ?_
    (refine tq 3 rfl hSA0 ?_ (fun w' hSw => by have z1 : w'.cell? ⟨rb, off, none⟩ = some (.slice v0.A v0.n v0.c) := hSw; go_simp; try with_reducible rfl))
    refine tq 4 rfl hSA0 ?_
    refine tq 5 rfl hSA0 ?_
    refine tq 6 rfl hSA0 ?_
    refine tq 7 rfl hSA0 ?_
    refine tq 8 rfl hSA0 ?_
    refine tq 9 rfl hSA0 ?_
    refine wpAnyH_done (by kernel_rfl) ?_ _
    clear hSA0
    go_wp2_with fail
    refine bodyPost_ret (results_tmp4 rfl _ _) rfl ⟨w.heap.size, w1.heap.size, _, _, by rw [HOP.out, HL.out]; rfl, by rw [HOP.out]; exact L4.out.under Bd.out, Nat.le_refl _, G1.out, Nat.le_trans S14.out Bd.out.size, Below.then_ B04.out Bd.out, .inr ⟨v0.A, v0.n, v0.c, A8, nb - 1, cb - 1, v0.bs, vs.map BV.bs, rfl, rfl, by rw [HOP.out]; exact HL.out, (RX.out.fine v0 (by simp)).cap, by have := RX.out.cap; omega, by have := NB.out; omega, fun w'' ho => ?_⟩⟩
    have hr := (RX.out.under Bd.out).step ho (fun i _ h => h)
    exact ⟨(hr.fine v0 (by simp)).bys, by have h9 := HB8.out w'' _ hr.byss; simpa using h9⟩
end
end Go.Proofs.YtjnpkcabkccaoaaGreat
namespace Go.Proofs.YtjnpkcabkccaoaaGreat
open Go.RowKit Go.Shelf

theorem writeC_cons (d : Dev) (pos : Int) (mark : Nat) (c : List Int) (l : List (List Int)) : writeC d pos mark (c :: l) = if (d.write pos (slabOf c mark)).2 ≠ 0 then d.write pos (slabOf c mark) else writeC (d.write pos (slabOf c mark)).1 (pos + 1) mark l := rfl
theorem writeC_stop (mark : Nat) : ∀ (ps qs : List (List Int)) (d : Dev) (pos : Int), (writeC d pos mark ps).2 ≠ 0 → writeC d pos mark (ps ++ qs) = writeC d pos mark ps
 | [], _, _, _, h => absurd rfl h
 | x :: l, qs, d, pos, h => by
  rw [List.cons_append, writeC_cons, writeC_cons]
  rw [writeC_cons] at h
  by_cases h0 : (d.write pos (slabOf x mark)).2 ≠ 0
  ·rw [if_pos h0, if_pos h0]
  ·rw [if_neg h0] at h ⊢
   rw [if_neg h0]
   exact writeC_stop mark l qs _ _ h
theorem writeC_app (mark : Nat) (c : List Int) : ∀ (ps : List (List Int)) (d : Dev) (pos : Int), (writeC d pos mark ps).2 = 0 → writeC d pos mark (ps ++ [c]) = (writeC d pos mark ps).1.write (pos + (ps.length : Int)) (slabOf c mark)
 | [], d, pos, _ => by
  rw [List.nil_append, writeC_cons]
  show _ = d.write (pos + ((0 : Nat) : Int)) (slabOf c mark)
  rw [show pos + ((0 : Nat) : Int) = pos by simp]
  by_cases h0 : (d.write pos (slabOf c mark)).2 ≠ 0
  ·rw [if_pos h0]
  ·rw [if_neg h0]
   have h1 : (d.write pos (slabOf c mark)).2 = 0 := by simpa using h0
   show ((d.write pos (slabOf c mark)).1, (0 : Int)) = _
   rw [← h1]
 | x :: l, d, pos, h => by
  have hx : ¬ (d.write pos (slabOf x mark)).2 ≠ 0 := fun h0 => by
   rw [writeC_cons, if_pos h0] at h
   exact h0 h
  have e1 : ∀ m, writeC d pos mark (x :: m) = writeC (d.write pos (slabOf x mark)).1 (pos + 1) mark m := fun m => by rw [writeC_cons, if_neg hx]
  rw [e1] at h
  rw [List.cons_append, e1, e1, writeC_app mark c l _ _ h, List.length_cons, show pos + 1 + (l.length : Int) = pos + ((l.length + 1 : Nat) : Int) by push_cast; omega]
theorem wpListIn_of_wpList {P : Program} {ops : Array Oper} {Q : Exit → Act → World → Prop} {ln n : Nat} (hL : ¬ LetsOut Q) : ∀ (l : List Oper), l.all notDefer = true → ∀ (a : Act) (w : World), wpList P ops Q l a w → wpListIn (Fence.wide.inRound ln) n P ops Q l a w
 | [], _, _, _, h => h
 | o :: rest, hd, a, w, h => by
  rw [List.all_cons, Bool.and_eq_true] at hd
  unfold wpList at h
  unfold wpListIn
  by_cases hw : Region.wanted o (yielded ops a.tmps) = true
  ·rw [if_pos hw] at h ⊢
   refine wpIn_of_wp_op (fun c e => ?_) (Oper.wp_mono (fun a' w' h' => wpListIn_of_wpList hL rest hd.2 a' w' h') (h.resolve_right fun e => hL e.2))
   have := hd.1
   rw [notDefer, e] at this
   cases this
  ·rw [if_neg hw] at h ⊢
   exact ⟨fun _ _ => trivial, wpListIn_of_wpList hL rest hd.2 _ _ h⟩
theorem wpIn_region_own {P : Program} {Q : Exit → Act → World → Prop} {ln n id : Nat} {a : Act} {w : World} {l : List Oper} (hd : l.all notDefer = true) (hL : ¬ LetsOut Q) (h : wpList P l.toArray Q l a w) : (Code.region id l.toArray false).wpIn (Fence.wide.inRound ln) n P Q a w :=
 wpIn_region_lit (wpListIn_of_wpList hL l hd a w h)
def partB (bs : List Int) {n : Nat} (x : PartNo n) : List Int := (bs.drop (x.1 * 120)).take 120
theorem parts_take {n : Nat} (bs : List Int) (hl : bs.length = n) : ∀ r, (partsTo n r).map (partB bs) = (chunks bs).take r
 | 0 => rfl
 | r + 1 => by
  rw [partsTo]
  by_cases h : 120 * r < n
  ·have hr : r < (bs.length + 119) / 120 := by omega
   rw [dif_pos h, List.map_append, parts_take bs hl r, List.take_add_one, chunks_get bs r hr]
   rfl
  ·have hr : (chunks bs).length ≤ r := by rw [chunks_count]; omega
   rw [dif_neg h, parts_take bs hl r, List.take_of_length_le hr, List.take_of_length_le (by omega)]
theorem parts_all {n : Nat} (bs : List Int) (hl : bs.length = n) : (partsTo n ((n + 119) / 120)).map (partB bs) = chunks bs := by
 rw [parts_take bs hl, List.take_of_length_le (by rw [chunks_count, hl]; exact Nat.le_refl _)]
theorem blk_kept {W W' : World} {row : Option Nat} {g : Nat} {t : TypeId} {cs : List Value} (h : Blk W g t cs) (hg : W.grownBy W' row) (hr : ∀ r, row = some r → ∃ o : Obj, W.heap[r]? = some o ∧ o.isCells = false) : Blk W' g t cs := by
 refine (hg.block g h.lt fun e => ?_).trans h
 obtain ⟨o, h1, h2⟩ := hr g e.symm
 rw [show W.heap[g]? = _ from h] at h1
 cases h1
 cases h2
theorem row_kept {W W' : World} {row : Option Nat} {base : Nat} {e : TypeId} {k n : Nat} {v : Value} {cs : List Value} (h : W.ownsRow base e k v n cs) (hg : W.grownBy W' row) (hr : ∀ r, row = some r → ∃ o : Obj, W.heap[r]? = some o ∧ o.isCells = false) : W'.ownsRow base e k v n cs := by
 refine ⟨h.1, h.2.imp id fun ⟨g, cap, cur, h1, h2, h3, h4⟩ => ⟨g, cap, cur, h1, h2, ?_, h4⟩⟩
 exact blk_kept (cs := cur.toList) (by simpa [Blk] using h3) hg hr |> fun h => by simpa [Blk] using h
theorem DevRep.kept {W W' : World} {row : Option Nat} {b : Nat} {F : Nat → Prop} {d : Dev} (h : DevRep W b F d) (hg : W.grownBy W' row) (hr : ∀ r, row = some r → ∃ o : Obj, W.heap[r]? = some o ∧ o.isCells = false) : DevRep W' b F d := by
 obtain ⟨k, s, wv, hi, hG, rfl⟩ := h
 exact ⟨k, s, wv, ⟨blk_kept hi.1 hg hr, blk_kept hi.2.1 hg hr, blk_kept hi.2.2.1 hg hr, row_kept hi.2.2.2.1 hg hr, hi.2.2.2.2⟩, hG, rfl⟩
theorem DevRep.cells {W : World} {b : Nat} {F : Nat → Prop} {d : Dev} (h : DevRep W b F d) : ∀ i, F i → ∃ o : Obj, W.heap[i]? = some o ∧ o.isCells = true := by
 obtain ⟨k, s, wv, hi, _, rfl⟩ := h
 rintro i (rfl | rfl | rfl | hi9)
 ·exact ⟨_, hi.1, rfl⟩
 ·exact ⟨_, hi.2.1, rfl⟩
 ·exact ⟨_, hi.2.2.1, rfl⟩
 ·rcases hi.2.2.2.1.2 with ⟨e, _⟩ | ⟨g, cap, cur, e, _, hh, _⟩
  ·rw [e] at hi9; cases hi9
  ·rw [e] at hi9
   have e9 : g = i := by injection hi9
   subst e9
   exact ⟨_, hh, rfl⟩
theorem keepsFrom_of_only {F : Nat → Prop} {W W' : World} (B : Nat) (h : Only F W W') (hF : ∀ i, i < W.heap.size → F i → ∃ o : Obj, W.heap[i]? = some o ∧ o.isCells = true) : KeepsFrom B W W' :=
 ⟨h.size, fun k _ _ hk ho => by
  have hlt := (Array.getElem?_eq_some_iff.1 hk).1
  refine (h.block k hlt fun hf => ?_).trans hk
  obtain ⟨o', h1, h2⟩ := hF k hlt hf
  rw [hk] at h1
  cases h1
  rw [ho] at h2
  cases h2⟩
theorem kpG_of_only {F : Nat → Prop} {W W' : World} {n0 : Nat} {G : Nat → Prop} (h : Only F W W') (hF : ∀ i, i < n0 → F i → G i) : KpG n0 G W W' := fun i hi hx _ ho _ =>
 (h.block i (Array.getElem?_eq_some_iff.1 ho).1 (fun hf => hx (hF i hi hf))).trans ho
structure WriteIn (w1 : World) (b p7 p10 : Nat) (F : Nat → Prop) (d : Dev) (pos at_ : Int) (mark : Nat) (ps : List (List Int)) (W : World) : Prop where
 dev : ∃ Fk, DevRep W b Fk (writeC d pos mark ps).1 ∧ ∀ i, Fk i → F i ∨ w1.heap.size ≤ i
 ok : (writeC d pos mark ps).2 = 0
 place : Blk W p7 3 [.int .i64 (at_ + (ps.length : Int))]
 ans : Blk W p10 31 [.int .i64 0]
 only : Only (fun i => F i ∨ i = p7) w1 W
structure WriteOut (w1 : World) (b p10 p7 : Nat) (F : Nat → Prop) (d : Dev) (pos : Int) (mark : Nat) (ps : List (List Int)) (W : World) : Prop where
 dev : ∃ Fk, DevRep W b Fk (writeC d pos mark ps).1 ∧ ∀ i, Fk i → F i ∨ w1.heap.size ≤ i
 ne : (writeC d pos mark ps).2 ≠ 0
 ans : Blk W p10 31 [.int .i64 (writeC d pos mark ps).2]
 only : Only (fun i => F i ∨ i = p7 ∨ i = p10) w1 W
theorem writeIn_own (w1 : World) (b p7 p10 : Nat) (F : Nat → Prop) (d : Dev) (pos at_ : Int) (mark : Nat) (bs : List Int) {n : Nat} : OwnFrom w1.heap.size (fun (pre : List (PartNo n)) => WriteIn w1 b p7 p10 F d pos at_ mark (pre.map (partB bs))) := by
 intro pre W W' row h hg hr
 have hc := fun r e => (hr r e).2
 obtain ⟨Fk, h1, h2⟩ := h.dev
 exact ⟨⟨Fk, h1.kept hg hc, h2⟩, h.ok, blk_kept h.place hg hc, blk_kept h.ans hg hc, h.only.grown hg (fun g e => .inl (hr g e).1)⟩
def WriteEx (w1 : World) (b p10 p7 : Nat) (F : Nat → Prop) (d : Dev) (pos : Int) (mark : Nat) (bs : List Int) {n : Nat} : Code → List (PartNo n) → World → Prop
 | .ret, pre, W => WriteOut w1 b p10 p7 F d pos mark (pre.map (partB bs)) W
 | _, _, _ => False
theorem writeEx_own (w1 : World) (b p10 p7 : Nat) (F : Nat → Prop) (d : Dev) (pos : Int) (mark : Nat) (bs : List Int) {n : Nat} (c : Code) : OwnFrom w1.heap.size (WriteEx w1 b p10 p7 F d pos mark bs (n := n) c) := by
 intro pre W W' row h hg hr
 have hc := fun r e => (hr r e).2
 cases c <;> try exact h
 obtain ⟨Fk, h1, h2⟩ := h.dev
 exact ⟨⟨Fk, h1.kept hg hc, h2⟩, h.ne, blk_kept h.ans hg hc, h.only.grown hg (fun g e => .inl (hr g e).1)⟩
theorem wpList_copy_blk {P : Program} {ops : Array Oper} {rest : List Oper} {o : Oper} {a : Act} {w : World} {Q : Exit → Act → World → Prop} (hgd : o.guard = none) (d s : Operand) (dT sT : TypeId)
  (ho : o.op = .call { callee := .builtin .copy, args := #[d, s], argTypes := #[dT, sT] }) (elem : TypeId) (hu : P.underlying dT = some (.slice elem)) (hsz : (P.info? elem).map (·.size) = some 1)
  (g off dLen dCap : Nat) (ad : Addr) (sLen sCap : Nat) (hd : a.eval d = .slice (some ⟨g, off, none⟩) dLen dCap) (hs : a.eval s = .slice (some ad) sLen sCap)
  (cur : List Value) (t : TypeId) (hg : Blk w g t cur) (cs : List Value) (hn : cs.length = Nat.min sLen dLen)
  (hsrc : ∀ (j : Nat) (v : Value), cs[j]? = some v → w.cell? (ad.add j) = some v) (hfit : off + cs.length ≤ cur.length) (h1 : ∀ v ∈ cs, v.oneCell' = true)
  (h : ∀ w', Only (fun i => i = g) w w' → w'.heap.size = w.heap.size → Blk w' g t (lay cur off cs) → wpList P ops Q rest (a.put o.dst (goInt cs.length)) w') : wpList P ops Q (o :: rest) a w :=
 wpList_step fun _ hK => step_copy_blk hgd d s dT sT ho elem hu hsz g off dLen dCap ad sLen sCap hd hs cur t hg cs hn hsrc hfit h1 fun w' o z b => hK _ _ (h w' o z b)
theorem Bys.src {w : World} {b off m : Nat} {bs : List Int} (h : Bys w (some ⟨b, off, none⟩) m bs) : ∀ (j : Nat) (v : Value), (bcs bs)[j]? = some v → w.cell? ((⟨b, off, none⟩ : Addr).add j) = some v := by
 intro j v hv
 have hj : j < m := by
  have := (List.getElem?_eq_some_iff.1 hv).1
  rw [bcs_length, h.1] at this
  exact this
 obtain ⟨b', o', e, hc⟩ := h.2.2 (by omega)
 injection e with e
 injection e with e1 e2 _
 subst e1
 subst e2
 rw [Addr.add_mid]
 simp only [bcs, List.getElem?_map] at hv
 rcases hx : bs[j]? with _ | x
 ·rw [hx] at hv; simp at hv
 ·rw [hx] at hv
  simp only [Option.map_some, Option.some.injEq] at hv
  rw [← hv]
  exact hc j x hx
theorem lay_slab (y : List Int) (mark : Nat) (hy : y.length ≤ 120) : lay (lay (enc zeroS) 0 (bcs y)) 120 (bcs (dig mark 8)) = enc (slabOf y mark) := by
 have hz : (enc zeroS).length = 128 := by rw [enc_length, zeroS_length]
 have e1 : lay (enc zeroS) 0 (bcs y) = bcs y ++ enc (List.replicate (128 - y.length) 0) := by
  rw [lay_eq _ _ _ (by rw [bcs_length, hz]; omega), List.take_zero, List.nil_append, bcs_length, Nat.zero_add]
  congr 1
  show ((List.replicate 128 0).map (Value.int .u8 ·)).drop y.length = (List.replicate (128 - y.length) 0).map (Value.int .u8 ·)
  rw [← List.map_drop, List.drop_replicate]
 have hl : (lay (enc zeroS) 0 (bcs y)).length = 128 := by rw [lay_length, hz]
 rw [lay_eq _ _ _ (by rw [hl, bcs_length, dig_length]; exact Nat.le_refl _), List.drop_of_length_le (by rw [hl, bcs_length, dig_length]; exact Nat.le_refl _), List.append_nil, e1]
 show _ = (y ++ List.replicate (120 - y.length) 0 ++ dig mark 8).map (Value.int .u8 ·)
 rw [List.map_append, List.map_append]
 congr 1
 show ((y.map (Value.int .u8 ·)) ++ (List.replicate (128 - y.length) 0).map (Value.int .u8 ·)).take 120 = _
 rw [List.take_append, List.take_of_length_le (by rw [List.length_map]; exact hy), List.length_map, ← List.map_take, List.take_replicate, Nat.min_eq_left (by omega)]
theorem partB_len {n k : Nat} (bs : List Int) (hl : bs.length = n) (hk : 120 * k < n) : (partB bs (⟨k, hk⟩ : PartNo n)).length = partLen n k := by
 rw [partB, List.length_take, List.length_drop, hl, partLen]
 show min 120 (n - k * 120) = _
 rw [Nat.mul_comm]
theorem partB_eq {n k : Nat} (bs : List Int) (hl : bs.length = n) (hk : 120 * k < n) : partB bs (⟨k, hk⟩ : PartNo n) = (bs.drop (120 * k)).take (partLen n k) := by
 rw [partB, partLen]
 show (bs.drop (k * 120)).take 120 = _
 rw [Nat.mul_comm k 120]
 by_cases h : 120 ≤ n - 120 * k
 ·rw [Nat.min_eq_left h]
 ·rw [Nat.min_eq_right (by omega), List.take_of_length_le (by rw [List.length_drop]; omega), List.take_of_length_le (by rw [List.length_drop]; omega)]
theorem wrap_half (half rm : Nat) (at_ : Int) (hh : half ≤ 1) (hr : rm ≤ 2048) (h0 : 0 ≤ at_) (h1 : at_ ≤ 200000) : IntKind.i64.wrap ((half : Int) * (rm : Int)) = (half : Int) * (rm : Int) ∧ IntKind.i64.wrap ((half : Int) * (rm : Int) + at_) = (half : Int) * (rm : Int) + at_ := by
 have e : half = 0 ∨ half = 1 := by omega
 rcases e with rfl | rfl <;> constructor <;> rw [IntKind.wrap_i64] <;> push_cast <;> omega
theorem DevRep.kc {W W' : World} {n0 b : Nat} {F : Nat → Prop} {d : Dev} (h : DevRep W b F d) (hk : KC n0 W W') : DevRep W' b F d := by
 obtain ⟨k, s, wv, hi, hG, rfl⟩ := h
 refine ⟨k, s, wv, ⟨hk.2 _ _ hi.1 rfl, hk.2 _ _ hi.2.1 rfl, hk.2 _ _ hi.2.2.1 rfl, ⟨hi.2.2.2.1.1, hi.2.2.2.1.2.imp id fun ⟨g, cap, cur, h1, h2, h3, h4⟩ => ⟨g, cap, cur, h1, h2, hk.2 _ _ h3 rfl, h4⟩⟩, hi.2.2.2.2⟩, hG, rfl⟩
theorem write_leave {w w1 W We w' : World} {b p5 p6 p7 p9 p10 : Nat} {F : Nat → Prop} {d' : Dev} {v : Value} (bw : Below w.heap.size w w1) (hd : ∃ Fk, DevRep W b Fk d' ∧ ∀ i, Fk i → F i ∨ w1.heap.size ≤ i) (o1 : Only (fun i => F i ∨ i = p7 ∨ i = p10) w1 W) (oe : Only (fun i => i = p10) W We) (hk : KC w1.heap.size We w')
  (hp : w.heap.size ≤ p5 ∧ w.heap.size ≤ p6 ∧ w.heap.size ≤ p7 ∧ w.heap.size ≤ p9 ∧ w.heap.size ≤ p10) (hq : p5 < w1.heap.size ∧ p6 < w1.heap.size ∧ p7 < w1.heap.size ∧ p9 < w1.heap.size ∧ p10 < w1.heap.size) (hF : ∀ i, F i → i < w.heap.size) : DevPost w b F d' v (.returned v) w' := by
 obtain ⟨Fk, h1, h2⟩ := hd
 have hb := bw.size
 refine ⟨rfl, Fk, (h1.keep oe (fun i hi e => ?_)).kc hk, ?_, fun i hi => (h2 i hi).imp id (fun h => by omega)⟩
 ·have h9 : i = p10 := e
  rcases h2 i hi with h | h
  ·have := hF _ h; omega
  ·omega
 ·have oA : Only F w We := (((Only.of_below bw F).trans (o1.mono (G := fun i => F i ∨ w.heap.size ≤ i) (fun i _ h => by rcases h with h | h | h; exact .inl h; exact .inr (by omega); exact .inr (by omega))) (fun i hi h => h.resolve_right (by omega))).trans (oe.mono (G := fun i => w.heap.size ≤ i) (fun i _ h => by show _ ≤ i; have h9 : i = p10 := h; omega)) (fun i hi h => by have h9 : w.heap.size ≤ i := h; omega))
  exact ⟨hk.1.os.trans oA.os, hk.1.tape.trans oA.tape, hk.1.output.trans oA.output, Nat.le_trans oA.size hk.1.size, fun i hi hf => (hk.1.block i (by omega)).trans (oA.block i hi hf)⟩
attribute [local go_sem] Oper.semAt_some
attribute [local go_sem ↓] loadSlab_fold
theorem lwrite_any (w : World) (g b : Nat) (F : Nat → Prop) (d : Dev) (l : LogD) (half : Nat) (at_ : Int) (A : Option Addr) (n c : Nat) (bs : List Int) (mark : Nat) (hL : LogAt w g b l) (hD : DevRep w b F d) (hdb : d.Bytes) (hgF : ¬ F g) (hB : Bys w A n bs) (hap : Apart A n F) (hn : n ≤ 100200) (h0 : 1 ≤ n) (hc : n ≤ c) (hh : half ≤ 1) (ha : 0 ≤ at_) (ha9 : at_ ≤ 10000) (hm : mark < 18446744073709551616) (hw : d.written.length ≤ 800000) :
  Calls Tryz.prog 51 #[.pointer (some ⟨g, 0, none⟩), .int .i64 (half : Int), .int .i64 at_, .slice A n c, .int .u64 (mark : Int)] w (DevPost w b F (writeL d half at_ bs mark).1 (.int .i64 (writeL d half at_ bs mark).2)) := by
 refine (callsIn_wide (n := 9)).1 (callsIn_of_wp_marks Tryz.func51 rfl trivial ?_ rfl)
 simp only [Tryz.ntmps51, List.size_toArray, List.length_cons, List.length_nil, Nat.reduceAdd, Nat.reduceSub, Array.replicate_succ, Array.replicate_zero, List.push_toArray, List.append_toArray, List.nil_append, List.cons_append]
 refine wpIn_wide.2 (wp_calm ?_)
 obtain ⟨pb, off, hA, _⟩ := hB.2.2 (by omega)
 subst hA
 go_wp2_with (go_at_call 86; refine ((callsIn_wide (n := 9)).1 (bchunk_in Fence.wide 9 trivial rfl _ _ _ _)).mono ?_; rintro e w' ⟨rfl, rfl⟩)
 have a0 : ∀ (o : Obj) (v : World), Below w.heap.size w v → Below w.heap.size w (v.alloc o) := fun o v h => below_alloc h o
 obtain ⟨wa, hwa⟩ : ∃ z, z = w.alloc (.cells #[.pointer (some ⟨g, 0, none⟩)] 60) := ⟨_, rfl⟩
 obtain ⟨wb, hwb⟩ : ∃ z, z = wa.alloc (.cells #[.int .i64 (half : Int)] 3) := ⟨_, rfl⟩
 obtain ⟨wc, hwc⟩ : ∃ z, z = wb.alloc (.cells #[.int .i64 at_] 3) := ⟨_, rfl⟩
 obtain ⟨wd, hwd⟩ : ∃ z, z = wc.alloc (.cells #[.int .u64 (mark : Int)] 63) := ⟨_, rfl⟩
 obtain ⟨we, hwe⟩ : ∃ z, z = wd.alloc (.cells #[.int .i64 0] 31) := ⟨_, rfl⟩
 obtain ⟨wf, hwf⟩ : ∃ z, z = we.alloc (.cells #[.slice (some ⟨pb, off, none⟩) n c] 23) := ⟨_, rfl⟩
 obtain ⟨w1, hw1⟩ : ∃ z, z = wf.alloc (.cells #[.int .i64 120] 3) := ⟨_, rfl⟩
 rw [← hwa, ← hwb, ← hwc, ← hwd, ← hwe, ← hwf, ← hw1]
 have sa : wa.heap.size = w.heap.size + 1 := by rw [hwa]; simp
 have sb : wb.heap.size = w.heap.size + 1 + 1 := by rw [hwb]; simp; omega
 have sc : wc.heap.size = w.heap.size + 1 + 1 + 1 := by rw [hwc]; simp; omega
 have sd : wd.heap.size = w.heap.size + 1 + 1 + 1 + 1 := by rw [hwd]; simp; omega
 have se : we.heap.size = w.heap.size + 1 + 1 + 1 + 1 + 1 := by rw [hwe]; simp; omega
 have sf : wf.heap.size = w.heap.size + 1 + 1 + 1 + 1 + 1 + 1 := by rw [hwf]; simp; omega
 have s1 : w1.heap.size = w.heap.size + 1 + 1 + 1 + 1 + 1 + 1 + 1 := by rw [hw1]; simp; omega
 have k5 : Blk w1 w.heap.size 60 [.pointer (some ⟨g, 0, none⟩)] := by rw [hw1, hwf, hwe, hwd, hwc, hwb, hwa]; exact ((((((Blk.new w _ _).alloc _).alloc _).alloc _).alloc _).alloc _).alloc _
 have k6 : Blk w1 wa.heap.size 3 [.int .i64 (half : Int)] := by rw [hw1, hwf, hwe, hwd, hwc, hwb]; exact (((((Blk.new wa _ _).alloc _).alloc _).alloc _).alloc _).alloc _
 have k7 : Blk w1 wb.heap.size 3 [.int .i64 at_] := by rw [hw1, hwf, hwe, hwd, hwc]; exact ((((Blk.new wb _ _).alloc _).alloc _).alloc _).alloc _
 have k9 : Blk w1 wc.heap.size 63 [.int .u64 (mark : Int)] := by rw [hw1, hwf, hwe, hwd]; exact (((Blk.new wc _ _).alloc _).alloc _).alloc _
 have k10 : Blk w1 wd.heap.size 31 [.int .i64 0] := by rw [hw1, hwf, hwe]; exact ((Blk.new wd _ _).alloc _).alloc _
 have ks : Blk w1 we.heap.size 23 [.slice (some ⟨pb, off, none⟩) n c] := by rw [hw1, hwf]; exact (Blk.new we _ _).alloc _
 have kn : Blk w1 wf.heap.size 3 [.int .i64 120] := by rw [hw1]; exact Blk.new wf _ _
 have bw : Below w.heap.size w w1 := by rw [hw1, hwf, hwe, hwd, hwc, hwb, hwa]; exact a0 _ _ (a0 _ _ (a0 _ _ (a0 _ _ (a0 _ _ (a0 _ _ (a0 _ _ (Below.refl _ _)))))))
 rw [← sf, ← se, ← sd, ← sc, ← sb, ← sa]
 obtain ⟨p5, hp5⟩ : ∃ p, p = w.heap.size := ⟨_, rfl⟩
 obtain ⟨p6, hp6⟩ : ∃ p, p = wa.heap.size := ⟨_, rfl⟩
 obtain ⟨p7, hp7⟩ : ∃ p, p = wb.heap.size := ⟨_, rfl⟩
 obtain ⟨p9, hp9⟩ : ∃ p, p = wc.heap.size := ⟨_, rfl⟩
 obtain ⟨p10, hp10⟩ : ∃ p, p = wd.heap.size := ⟨_, rfl⟩
 obtain ⟨ps, hps⟩ : ∃ p, p = we.heap.size := ⟨_, rfl⟩
 obtain ⟨pn, hpn⟩ : ∃ p, p = wf.heap.size := ⟨_, rfl⟩
 rw [← hp6] at k6; rw [← hp7] at k7; rw [← hp9] at k9; rw [← hp10] at k10; rw [← hps] at ks; rw [← hpn] at kn; rw [← hp5] at k5
 obtain ⟨pos, hpos⟩ : ∃ z, z = (half : Int) * (d.room : Int) + at_ := ⟨_, rfl⟩
 have FW : ∀ i, F i → i < w.heap.size := hD.lt
 have hI0 : WriteIn w1 b p7 p10 F d pos at_ mark (([] : List (PartNo n)).map (partB bs)) w1 := ⟨⟨F, hD.under bw, fun _ h => .inl h⟩, rfl, by simpa using k7, k10, Only.refl _ _⟩
 have hcs := bchunk_stops 8 (by decide) ps pn w1.heap.size pb off n c (fun i => F i ∨ i = p7) w1 (by omega) hc ⟨ks.lt, fun h => by rcases h with h | h; exact absurd (FW _ h) (by omega); omega⟩ ⟨kn.lt, fun h => by rcases h with h | h; exact absurd (FW _ h) (by omega); omega⟩ ks.lt kn.lt ks.c0 kn.c0
 have S57 := hide (show p7 ≠ p5 ∧ p7 ≠ p6 ∧ p7 ≠ p9 ∧ p7 ≠ p10 by omega)
 have SP := hide (show w.heap.size ≤ p5 ∧ w.heap.size ≤ p6 ∧ w.heap.size ≤ p7 ∧ w.heap.size ≤ p9 ∧ w.heap.size ≤ p10 by omega)
 have SQ := hide (show p5 < w1.heap.size ∧ p6 < w1.heap.size ∧ p7 < w1.heap.size ∧ p9 < w1.heap.size ∧ p10 < w1.heap.size by omega)
 have hpb : pb < w.heap.size := by
  obtain ⟨b', o', e, hr⟩ := hB.2.2 (by omega)
  injection e with e
  injection e with e1 e2 _
  subst e1
  subst e2
  obtain ⟨x, hx⟩ : ∃ x, bs[0]? = some x := ⟨_, List.getElem?_eq_getElem (by rw [hB.1]; omega)⟩
  exact World.block_lt_of_cell? w _ (hr 0 x hx)
 have K5 := hide k5
 have K6 := hide k6
 have K9 := hide k9
 have L1 := hide (hL.under bw)
 have B1 := hide (hB.below bw)
 have BW := hide bw
 have HPB := hide hpb
 have HFW := hide FW
 have HD := hide hD
 have HDB := hide hdb
 have HGF := hide hgF
 have HAP := hide hap
 have HBY := hide hB.2.1
 have HBL := hide hB.1
 have HN := hide hn
 have HH := hide hh
 have HA0 := hide ha
 have HA9 := hide ha9
 have HM := hide hm
 have HWR := hide hw
 have HPOS := hide hpos
 have LG := hide hL.blk.lt
 rw [← hp5, ← hp6, ← hp7, ← hp9, ← hp10, ← hps, ← hpn]
 clear hL hD hdb hgF hB hap hn h0 hc hh ha ha9 hm hw hpos FW hpb k5 k6 k7 k9 k10 ks kn bw sa sb sc sd se sf s1 hwa hwb hwc hwd hwe hwf hw1 hp5 hp6 hp7 hp9 hp10 hps hpn a0
 refine (wpIn_wide (n := 9)).1 ?_
 refine wpIn_rangeFunc_ownG rfl (by decide) (gf := 120) (lb := #[.pointer (some ⟨ps, 0, none⟩), .pointer (some ⟨pn, 0, none⟩)]) rfl trivial (enters_of Tryz.func120 (by kernel_rfl) rfl)
  hcs (fun h k => h.trans k) (fun W l o o' _ h hc _ => KpG.put W l o o' h hc) (Below.refl _ _) (fun _ => rfl)
  (fun pre => WriteIn w1 b p7 p10 F d pos at_ mark (pre.map (partB bs))) (WriteEx w1 b p10 p7 F d pos mark bs) (writeIn_own w1 b p7 p10 F d pos at_ mark bs) (writeEx_own w1 b p10 p7 F d pos mark bs)
  hI0
  (fun x => { tmps := #[.pointer (some ⟨g, 0, none⟩), .int .i64 (half : Int), .int .i64 at_, .slice (some ⟨pb, off, none⟩) n c, .int .u64 (mark : Int), .pointer (some ⟨p5, 0, none⟩), .pointer (some ⟨p6, 0, none⟩), .pointer (some ⟨p7, 0, none⟩), undef, .pointer (some ⟨p9, 0, none⟩), .pointer (some ⟨p10, 0, none⟩), .slice (some ⟨pb, off + 120 * x.1, none⟩) (partLen n x.1) (partLen n x.1), undef, undef, .slice (some ⟨pb, off, none⟩) n c, .func (.func 120) #[] #[.pointer (some ⟨ps, 0, none⟩), .pointer (some ⟨pn, 0, none⟩)], .slice (some ⟨pb, off + 120 * x.1, none⟩) (partLen n x.1) (partLen n x.1), undef, undef, undef, undef, undef, undef, undef, undef, undef, undef, undef, undef, undef, undef, undef, undef, undef, undef, undef, undef, undef, undef, undef, undef, undef, undef, undef], defers := [] }) ?assign ?body ?done ?stop
 case assign =>
  intro l x W K hK
  simp only [encPart]
  gi_wp2
  exact hK
 case body =>
  rintro ln pre ⟨k, hk⟩ W hP hpl
  clear hcs hI0
  obtain ⟨Fk, hDk, hFk⟩ := hP.dev
  obtain ⟨dk, hdk⟩ : ∃ z, z = (writeC d pos mark (pre.map (partB bs))).1 := ⟨_, rfl⟩
  rw [← hdk] at hDk
  have hFlt := HFW.out
  have hsz := hP.only.size
  have hbel := BW.out.size
  have hkeep : ∀ {i : Nat}, i < w1.heap.size → ¬ F i → i ≠ p7 → W.heap[i]? = w1.heap[i]? := fun h1 h2 h3 => hP.only.block _ h1 fun h => by rcases h with h | h; exact h2 h; exact h3 h
  have L := hide (L1.out.keep hP.only fun h => by rcases h with h | h; exact HGF.out h; have := SP.out; have := LG.out; omega)
  have M5 := hide (hP.only.blk K5.out fun h => by rcases h with h | h; have := HFW.out _ h; have := SP.out; omega; exact S57.out.1 h.symm)
  have M6 := hide (hP.only.blk K6.out fun h => by rcases h with h | h; have := HFW.out _ h; have := SP.out; omega; exact S57.out.2.1 h.symm)
  have M9 := hide (hP.only.blk K9.out fun h => by rcases h with h | h; have := HFW.out _ h; have := SP.out; omega; exact S57.out.2.2.1 h.symm)
  have M7 := hide hP.place
  have M10 := hide hP.ans
  have hBW : Bys W (some ⟨pb, off, none⟩) n bs := B1.out.keep hP.only (fun h ad e hf => by
   injection e with e
   subst e
   rcases hf with hf | hf
   ·exact HAP.out h _ rfl hf
   ·have h9 : pb = p7 := hf
    have := SP.out; have := HPB.out; omega)
  have hB1 := hBW.sub (120 * k) (partLen n k) (by rw [partLen]; omega)
  rw [← partB_eq bs HBL.out hk] at hB1
  have hyl := partB_len bs HBL.out hk
  have hyb : Byt (partB bs (⟨k, hk⟩ : PartNo n)) := fun x hx => HBY.out x (List.mem_of_mem_drop (List.mem_of_mem_take hx))
  have hm1 : partLen n k ≤ 120 := Nat.min_le_left _ _
  obtain ⟨y, hy⟩ : ∃ y, y = partB bs (⟨k, hk⟩ : PartNo n) := ⟨_, rfl⟩
  obtain ⟨m, hm⟩ : ∃ m, m = partLen n k := ⟨_, rfl⟩
  dsimp only
  rw [← hy, ← hm] at hB1 hyl
  rw [← hy] at hyb
  rw [← hm] at hm1 ⊢
  obtain ⟨PL, hPL⟩ : ∃ z, z = at_ + (((pre.map (partB bs)).length : Nat) : Int) := ⟨_, rfl⟩
  rw [← hPL] at M7
  have hpl2 : 0 ≤ PL ∧ PL ≤ 200000 := by rw [hPL, List.length_map]; have := HA0.out; have := HA9.out; have := HN.out; omega
  obtain ⟨rm, hrm⟩ : ∃ z, z = dk.room := ⟨_, rfl⟩
  have hrm2 : rm ≤ 2048 := by rw [hrm, Dev.room]; have := hDk.good.few; omega
  have hwr := wrap_half half rm PL HH.out hrm2 hpl2.1 hpl2.2
  have HW1 := hide hwr.1
  have HW2 := hide hwr.2
  have HWP := hide (show IntKind.i64.wrap (PL + 1) = PL + 1 by rw [IntKind.wrap_i64]; omega)
  have HRMD := hide (show rm = d.room by rw [hrm, hdk, writeC_room])
  have hwr2 := writeC_many mark (pre.map (partB bs)) d pos
  rw [← hdk, List.length_map] at hwr2
  have HWR2 := hide (show dk.written.length ≤ 1000000 by have := HWR.out; have := HN.out; omega)
  obtain ⟨q, hq⟩ : ∃ q, q = W.heap.size := ⟨_, rfl⟩
  have HQ := hide hq
  have HPLE := hide hPL
  have HRM := hide hrm
  have HDKE := hide hdk
  have HDK := hide hDk
  have HFK := hide hFk
  have NF7 := hide (show ¬ Fk p7 from fun h => by have := SP.out; have := SQ.out; rcases hFk _ h with h | h; have := HFW.out _ h; omega; omega)
  have NF10 := hide (show ¬ Fk p10 from fun h => by have := SP.out; have := SQ.out; rcases hFk _ h with h | h; have := HFW.out _ h; omega; omega)
  have NFA := hide (show ∀ i, (w.heap.size ≤ i ∧ i < w1.heap.size) ∨ i = g ∨ i = q → ¬ Fk i from fun i hi h => by
   have h1 := hDk.lt i h
   rcases hi with h2 | rfl | rfl
   ·rcases hFk _ h with h | h
    ·have := HFW.out _ h; omega
    ·omega
   ·rcases hFk _ h with h | h
    ·exact HGF.out h
    ·have := LG.out; omega
   ·omega)
  have HPOSE := hide (show pos + (((pre.map (partB bs)).length : Nat) : Int) = (half : Int) * (rm : Int) + PL by rw [HPOS.out, hPL, HRMD.out]; omega)
  have HP := hide hP
  have HYL := hide (show y.length ≤ 120 by omega)
  have HYE := hide hy
  have HYM := hide hyl
  have HM1 := hide hm1
  have HYB := hide hyb
  have HBP := hide hB1
  have HSZ := hide hsz
  clear hPL hpl2 hrm2 hwr hwr2 hP hDk hFk hdk hy hm hyl hyb hm1 hB1 hBW hsz hbel hFlt hpl hrm
  refine wpIn_block (wpIn_seq (wpIn_region_own (by kernel_rfl) (by rintro ⟨_, _, h⟩; exact h) ?_))
  go_wp2_with (refine wpList_alloc_agg rfl 94 rfl (enc zeroS) zero33 ?_; simp only [pU])
  rw [← hq]
  obtain ⟨W2, hW2⟩ : ∃ z, z = W.alloc (.cells (enc zeroS).toArray 94) := ⟨_, rfl⟩
  have B2 := hide (show Blk W2 q 94 (enc zeroS) by rw [hW2, hq]; exact Blk.new W _ _)
  have T2 := hide (show Below W.heap.size W W2 by rw [hW2]; exact below_alloc (Below.refl _ _) _)
  have Y2 := hide (HBP.out.below T2.out)
  rw [← hW2]
  clear hW2 hq
  refine wpIn_seq (wpIn_region_own (by kernel_rfl) (by rintro ⟨_, _, h⟩; exact h) ?_)
  go_wp2_with (refine wpList_copy_blk rfl _ _ _ _ rfl 5 Tryz.underlying23 iszByte q 0 120 128 ⟨pb, off + 120 * k, none⟩ m m (by rfl) (by rfl) (enc zeroS) 94 B2.out (bcs y) (by rw [bcs_length, HYM.out]; exact (Nat.min_eq_left HM1.out).symm) Y2.out.src (by rw [enc_length, zeroS_length, bcs_length]; have := HYL.out; omega) (bcs_one _) ?_; intro W3 o3 z3 b3; have B3 := hide b3; have T3 := hide (o3.under T2.out (fun i hi => by have h9 : i = q := hi; have := HQ.out; omega)); clear b3 o3 z3; simp only [pU])
  repeat refine wpIn_seq ?_
  refine wpIn_region_held_drew (S := fun w' => Below W.heap.size W w') (by kernel_rfl) (by rintro ⟨_, _, h⟩; exact h) (by kernel_rfl) (Below.then_ T3.out (Below.refl _ W3).drew) (fun hSA0 => ?_)
  obtain ⟨W3d, hwA⟩ : ∃ x, x = W3.drew := ⟨_, rfl⟩
  have BdA := hide (show Below W3.heap.size W3 W3d by rw [hwA]; exact (Below.refl _ _).drew)
  rw [← hwA] at hSA0 ⊢
  clear hwA
  refine tq 0 rfl hSA0 ?_
  (refine tq 1 rfl hSA0 ?_ (fun w' hSw => by have z := (M9.out.under hSw).c0; go_simp; try with_reducible rfl))
  refine ry 2 rfl fun K hK => ?_
  go_simp
  go_simp
  go_wp2_with (go_at_call 84; refine (Fixed_any W3d W3d none 0 0 [] (mark : Int) 8 (Below.refl _ _) (Bys.nil _ _) (by omega) (by have := HM.out; omega) (by decide)).mono ?_; rintro e W5 h5; obtain ⟨A5, n5, c5, rfl, m5, _⟩ := h5.fresh)
  have m5' : Mine 5 W3d W5 A5 n5 c5 (dig mark 8) := m5
  obtain rfl : n5 = 8 := by rw [← m5'.len, dig_length]
  obtain ⟨pb5, o5, rfl, _⟩ := m5'.bys.2.2 (by decide)
  have Y5 := hide m5'.bys
  have T5 := hide m5'.below
  have hS5 := Below.then_ hSA0 m5'.below
  clear h5 m5 m5'
  refine hK.out _ _ (hS5) (fun hSA1 => ?_)
  clear hK K
  refine ry 3 rfl fun K hK => ?_
  refine step_copy_blk rfl _ _ _ _ rfl 5 Tryz.underlying23 iszByte q 120 8 8 ⟨pb5, o5, none⟩ 8 c5 (by rfl) (by rfl) (lay (enc zeroS) 0 (bcs y)) 94 (B3.out.under (Below.then_ BdA.out T5.out)) (bcs (dig mark 8)) (by rw [bcs_length, dig_length]; rfl) Y5.out.src (by rw [lay_length, enc_length, zeroS_length, bcs_length, dig_length]; exact Nat.le_refl _) (bcs_one _) ?_
  intro W6 o6 z6 b6
  rw [lay_slab y mark HYL.out] at b6
  have hS6 := o6.under hSA1 (fun i hi => by have h9 : i = q := hi; have := HQ.out; omega)
  have B6 := hide b6
  have T6 := hide hS6
  clear b6 o6 z6
  simp only [Act.put, List.setIfInBounds_toArray]
  refine hK.out _ _ (hS6) (fun hSA2 => ?_)
  clear hK K
  refine wpAnyH_done (by kernel_rfl) ?_ _
  clear hSA0 hS5 hS6
  repeat refine wpIn_seq ?_
  refine wpIn_region_held_drew (S := fun w' => Only Fk W6 w') (by kernel_rfl) (by rintro ⟨_, _, h⟩; exact h) (by kernel_rfl) (Only.of_below (Below.refl _ W6).drew _) (fun hSB0 => ?_)
  obtain ⟨W6d, hwB⟩ : ∃ x, x = W6.drew := ⟨_, rfl⟩
  have BdB := hide (show Below W6.heap.size W6 W6d by rw [hwB]; exact (Below.refl _ _).drew)
  rw [← hwB] at hSB0 ⊢
  clear hwB
  (refine tq 0 rfl hSB0 ?_ (fun w' hSw => by have z := (hSw.blk (M5.out.under T6.out) (NFA.out _ (.inl ⟨SP.out.1, SQ.out.1⟩))).c0; go_simp; try with_reducible rfl))
  refine tq 1 rfl hSB0 ?_
  refine tq 2 rfl hSB0 ?_
  (refine tq 3 rfl hSB0 ?_ (fun w' hSw => by have z := ((L.out.under T6.out).keep hSw (NFA.out _ (.inr (.inl rfl)))).cd; go_simp; try with_reducible rfl))
  (refine tq 4 rfl hSB0 ?_ (fun w' hSw => by have z := (hSw.blk (M6.out.under T6.out) (NFA.out _ (.inl ⟨SP.out.2.1, SQ.out.2.1⟩))).c0; go_simp; try with_reducible rfl))
  (refine tq 5 rfl hSB0 ?_ (fun w' hSw => by have z := (hSw.blk (M5.out.under T6.out) (NFA.out _ (.inl ⟨SP.out.1, SQ.out.1⟩))).c0; go_simp; try with_reducible rfl))
  refine tq 6 rfl hSB0 ?_
  refine tq 7 rfl hSB0 ?_
  (refine tq 8 rfl hSB0 ?_ (fun w' hSw => by have z := ((L.out.under T6.out).keep hSw (NFA.out _ (.inr (.inl rfl)))).cd; go_simp; try with_reducible rfl))
  (refine tq 11 rfl hSB0 ?_ (fun w' hSw => by have z := (hSw.blk (M7.out.under T6.out) (NFA.out _ (.inl ⟨SP.out.2.2.1, SQ.out.2.2.1⟩))).c0; go_simp; try with_reducible rfl))
  (refine tq 13 rfl hSB0 ?_ (fun w' hSw => by have z := loadSlab_run w' q 0 (slabOf y mark) (hSw.blk B6.out (NFA.out _ (.inr (.inr rfl)))).whole (slabOf_len HYL.out mark); go_simp; try with_reducible rfl))
  refine ry 9 rfl fun K hK => ?_
  go_simp
  go_simp
  go_wp2_with (go_at_call 65; refine (room_any W6d b Fk dk (HDK.out.under (Below.then_ T6.out BdB.out))).mono ?_; rintro e wz ⟨rfl, hwz⟩; rw [← hwz]; clear hwz; rw [show (dk.room : Int) = (rm : Int) by rw [HRM.out]])
  refine hK.out _ _ (hSB0) (fun hSB1 => ?_)
  clear hK K
  (refine tq 10 rfl hSB1 ?_ (fun w' hSw => by have z := HW1.out; go_simp; try with_reducible rfl))
  (refine tq 12 rfl hSB1 ?_ (fun w' hSw => by have z := HW2.out; go_simp; try with_reducible rfl))
  refine ry 14 rfl fun K hK => ?_
  go_simp
  go_simp
  go_wp2_with (go_at_call 87; refine (write_any W6d b Fk dk ((half : Int) * (rm : Int) + PL) (slabOf y mark) (HDK.out.under (Below.then_ T6.out BdB.out)) (slabOf_len HYL.out mark) HWR2.out).mono ?_; rintro e W9 ⟨rfl, F9, h9, o9, f9⟩; obtain ⟨v, hv⟩ : ∃ v, v = (dk.write ((half : Int) * (rm : Int) + PL) (slabOf y mark)).2 := ⟨_, rfl⟩; have HV := hide hv; rw [← hv]; have T8 := hide (Below.then_ T6.out BdB.out); have H9 := hide h9; have O9 := hide o9; have G9 := hide f9; have hS9 := hSB1.trans o9 (fun _ _ h => h); clear h9 o9 f9 hv)
  refine hK.out _ _ (hS9) (fun hSB2 => ?_)
  clear hK K
  refine tq 15 rfl hSB2 ?_
  refine wpAnyH_done (by kernel_rfl) ?_ _
  clear hSB0
  clear hS9
  have c7 := (O9.out.blk (M7.out.under T8.out) NF7.out).c0
  have f7 := (O9.out.blk (M7.out.under T8.out) NF7.out).frozen 0
  have c10 := (O9.out.blk (M10.out.under T8.out) NF10.out).c0
  have f10 := (O9.out.blk (M10.out.under T8.out) NF10.out).frozen 0
  have z1 := HWP.out
  by_cases hv0 : v = 0
  ·gi_wp2
   obtain ⟨We, hWe⟩ : ∃ z, z = W9.setCell ⟨p7, 0, none⟩ (.int .i64 (PL + 1)) := ⟨_, rfl⟩
   rw [← hWe]
   have oe : Only (fun i => i = p7) W9 We := by rw [hWe]; exact Only.cell1 W9 p7 0 _
   have oW : Only (fun i => Fk i ∨ i = p7) W We := ((Only.of_below T8.out (fun i => Fk i ∨ i = p7)).trans O9.out (fun i _ h => .inl h)).trans oe (fun i _ h => .inr h)
   have hN : ∀ i, F9 i → Fk i ∨ W.heap.size ≤ i := fun i h => (G9.out i h).imp id (fun h => by have := T8.out.size; omega)
   refine ⟨keepsFrom_of_only w1.heap.size oW ?_, kpG_of_only oW ?_, ⟨F9, ?_, ?_⟩, ?_, ?_, ?_, ?_⟩
   ·rintro i hi (h | rfl)
    ·exact HDK.out.cells i h
    ·exact ⟨_, M7.out, rfl⟩
   ·rintro i hi (h | h)
    ·rcases HFK.out i h with h | h
     ·exact .inl h
     ·omega
    ·exact .inr h
   ·rw [List.map_append, List.map_cons, List.map_nil, ← HYE.out, writeC_app mark y _ d pos HP.out.ok, ← HDKE.out]
    rw [HPOSE.out]
    exact H9.out.keep oe (fun i hf e => by have h9 : i = p7 := e; subst h9; rcases hN _ hf with h | h; exact NF7.out h; have := SQ.out; have := HSZ.out; omega)
   ·intro i hi
    rcases hN i hi with h | h
    ·exact HFK.out i h
    ·exact .inr (by have := HSZ.out; omega)
   ·rw [List.map_append, List.map_cons, List.map_nil, ← HYE.out, writeC_app mark y _ d pos HP.out.ok, ← HDKE.out, HPOSE.out, ← HV.out]
    exact hv0
   ·rw [List.map_append, List.length_append]
    have h9 := (O9.out.blk (M7.out.under T8.out) NF7.out).set_ 0 (.int .i64 (PL + 1))
    rw [hWe, show at_ + ((((pre.map (partB bs)).length + ([(⟨k, hk⟩ : PartNo n)].map (partB bs)).length : Nat)) : Int) = PL + 1 by rw [HPLE.out]; simp; omega]
    exact h9
   ·exact oe.blk (O9.out.blk (M10.out.under T8.out) NF10.out) (fun e => S57.out.2.2.2 e.symm)
   ·exact HP.out.only.trans oW (fun i hi h => by rcases h with h | h; exact (HFK.out i h).imp id (fun h => by omega); exact .inr h)
  ·gi_wp2
   obtain ⟨We, hWe⟩ : ∃ z, z = W9.setCell ⟨p10, 0, none⟩ (.int .i64 v) := ⟨_, rfl⟩
   rw [← hWe]
   have oe : Only (fun i => i = p10) W9 We := by rw [hWe]; exact Only.cell1 W9 p10 0 _
   have oW : Only (fun i => Fk i ∨ i = p10) W We := ((Only.of_below T8.out (fun i => Fk i ∨ i = p10)).trans O9.out (fun i _ h => .inl h)).trans oe (fun i _ h => .inr h)
   have hN : ∀ i, F9 i → Fk i ∨ W.heap.size ≤ i := fun i h => (G9.out i h).imp id (fun h => by have := T8.out.size; omega)
   refine ⟨keepsFrom_of_only w1.heap.size oW ?_, ⟨F9, ?_, ?_⟩, ?_, ?_, ?_⟩
   ·rintro i hi (h | rfl)
    ·exact HDK.out.cells i h
    ·exact ⟨_, M10.out, rfl⟩
   ·rw [List.map_append, List.map_cons, List.map_nil, ← HYE.out, writeC_app mark y _ d pos HP.out.ok, ← HDKE.out, HPOSE.out]
    exact H9.out.keep oe (fun i hf e => by have h9 : i = p10 := e; subst h9; rcases hN _ hf with h | h; exact NF10.out h; have := SQ.out; have := HSZ.out; omega)
   ·intro i hi
    rcases hN i hi with h | h
    ·exact HFK.out i h
    ·exact .inr (by have := HSZ.out; omega)
   ·rw [List.map_append, List.map_cons, List.map_nil, ← HYE.out, writeC_app mark y _ d pos HP.out.ok, ← HDKE.out, HPOSE.out, ← HV.out]
    exact hv0
   ·have h9 := (O9.out.blk (M10.out.under T8.out) NF10.out).set_ 0 (.int .i64 v)
    rw [List.map_append, List.map_cons, List.map_nil, ← HYE.out, writeC_app mark y _ d pos HP.out.ok, ← HDKE.out, HPOSE.out, ← HV.out, hWe]
    exact h9
   ·exact (HP.out.only.mono (fun i _ h => h.imp id .inl)).trans oW (fun i hi h => by rcases h with h | h; exact (HFK.out i h).imp id (fun h => by omega); exact .inr (.inr h))
 case done =>
  rintro D xs W hD rfl hP hK
  clear hcs hI0
  have hpa := parts_all bs HBL.out
  rw [hpa] at hP
  have HP := hide hP
  have HK := hide hK
  have HDD := hide hD
  have c10 := hP.ans.c0
  have f10 := hP.ans.frozen 0
  clear hP hK hD hpa
  dsimp only
  go_wp2_with fail
  obtain ⟨We, hWe⟩ : ∃ z, z = W.setCell ⟨p10, 0, none⟩ (.int .i64 0) := ⟨_, rfl⟩
  rw [← hWe]
  have oe : Only (fun i => i = p10) W We := by rw [hWe]; exact Only.cell1 W p10 0 _
  have be : Blk We p10 31 [.int .i64 0] := by rw [hWe]; exact HP.out.ans.set_ 0 (.int .i64 0)
  have hwl : writeL d half at_ bs mark = writeC d pos mark (chunks bs) := by rw [HPOS.out]; rfl
  refine leaves_marks (F := Fence.wide) (n := 9) (n0 := w1.heap.size) [D] We (by simp) ?_ (fun w' hk => ?_)
  ·intro E hE
   obtain rfl : E = D := by simpa using hE
   exact ⟨HDD.out, (oe.block _ (Array.getElem?_eq_some_iff.1 HK.out).1 (fun e => by have h9 : E = p10 := e; have := SQ.out; have := HDD.out; omega)).trans HK.out⟩
  ·have b9 := hk.2 _ _ be rfl
   have c9 := (show Blk w' p10 31 [.int .i64 0] from b9).c0
   refine ⟨.int .i64 0, by simp [results]; go_simp, ?_⟩
   rw [hwl, HP.out.ok]
   exact write_leave BW.out HP.out.dev (HP.out.only.mono (fun i _ h => h.imp id .inl)) (oe.mono (fun i _ h => h)) hk SP.out SQ.out HFW.out
 case stop =>
  rintro D cc pre W hD ⟨r, rfl⟩ hx hK
  cases cc <;> try exact hx.elim
  clear hcs hI0
  have hx' : WriteOut w1 b p10 p7 F d pos mark ((partsTo n r).map (partB bs)) W := hx
  have hs := writeC_stop mark ((partsTo n r).map (partB bs)) ((chunks bs).drop r) d pos hx'.ne
  have hwl : writeL d half at_ bs mark = writeC d pos mark ((partsTo n r).map (partB bs)) := by
   rw [← hs, parts_take bs HBL.out, List.take_append_drop, HPOS.out]; rfl
  refine wpIn_ret ?_
  refine leaves_marks (F := Fence.wide) (n := 9) (n0 := w1.heap.size) [D] W (by simp) ?_ (fun w' hk => ?_)
  ·intro E hE
   obtain rfl : E = D := by simpa using hE
   exact ⟨hD, hK⟩
  ·have b9 := hk.2 _ _ hx'.ans rfl
   have c9 := (show Blk w' p10 31 [.int .i64 (writeC d pos mark ((partsTo n r).map (partB bs))).2] from b9).c0
   refine ⟨.int .i64 (writeC d pos mark ((partsTo n r).map (partB bs))).2, by simp [results]; go_simp, ?_⟩
   rw [hwl]
   exact write_leave BW.out hx'.dev (hx'.only.mono (fun i _ h => by rcases h with h | h | h; exact .inl h; exact .inr (.inl h); exact .inr (.inr h))) (Only.refl _ W) hk SP.out SQ.out HFW.out
end Go.Proofs.YtjnpkcabkccaoaaGreat
