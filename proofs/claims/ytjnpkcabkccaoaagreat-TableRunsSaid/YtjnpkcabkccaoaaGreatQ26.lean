/- Lemmas and walks for TableRuns, packed. -/
import Derived.Test.YtjnpkcabkccaoaaGreatQ24
import Derived.Test.YtjnpkcabkccaoaaGreatQ25
set_option maxRecDepth 100000
set_option maxHeartbeats 16000000
namespace Go.Proofs.YtjnpkcabkccaoaaGreat
open Go.RowKit
section
attribute [local go_sem ↓] mkSlab_fold
attribute [local go_sem] mkSlab_run
theorem docread_no (w : World) (b : Nat) (F : Nat → Prop) (d : Dev) (at_ : Int) (h : DocRep w b F d) (hh : d.has at_ = false) :
  Calls Tryz.prog 93 #[.pointer (some ⟨b, 0, none⟩), .int .i64 at_] w fun e w' => e = .returned (.tuple #[.agg (enc (d.read at_).1).toArray, .int .i64 (d.read at_).2]) ∧ Below w.heap.size w w' := by
 have hr : d.read at_ = (zeroS, 131) := by simp [Dev.read, hh]
 rw [hr]
 have hI := hide (isz33' zeroS zeroS_length)
 have hu := hide Tryz.underlying94
 obtain ⟨k0, wv0, m0, hi0, _, hF0⟩ := h
 have c0 : (w.alloc (.cells (enc zeroS).toArray 94)).cell? ⟨b, 0, none⟩ = some (.slice (some ⟨k0, 0, none⟩) d.kept.length d.kept.length) := ((hi0.1.alloc _).cell 0).trans rfl
 have c1 : ((w.alloc (.cells (enc zeroS).toArray 94)).alloc (.cells (enc zeroS).toArray 94)).cell? ⟨b, 0, none⟩ = some (.slice (some ⟨k0, 0, none⟩) d.kept.length d.kept.length) := (((hi0.1.alloc _).alloc _).cell 0).trans rfl
 clear hi0 hF0
 by_cases hneg : at_ < 0
 ·go_enter Tryz.func93, Tryz.ntmps93
  go_wp2_with (first
   | (refine wpList_alloc_agg rfl 94 rfl (enc zeroS) zero33 ?_; simp only [pU])
   | (refine wpList_store_blk rfl 94 _ _ rfl w.heap.size 0 94 (enc zeroS) (enc zeroS) (by rfl) (by rfl) (by first | exact Blk.new w _ _ | exact (Blk.new w _ _).alloc _) (Nat.le_of_eq (Nat.zero_add _)) hI.out (enc_one _) ?_; intro w2 o2 z2 b2; simp only [Act.put]))
  rw [lay_all _ _ rfl] at b2
  refine bodyPost_ret (results_cell_tmp_blk rfl _ _ w.heap.size 94 _ _ (by rfl) b2 hu.out rfl hI.out) rfl ⟨rfl, ?_⟩
  exact ((Below.refl _ _).alloc (Nat.le_refl _) _).trans (o2.below (by simp) (fun i hi => by omega))
 ·have hge : (d.kept.length : Int) ≤ at_ := by
   simp only [Dev.has, Bool.and_eq_false_iff, decide_eq_false_iff_not] at hh
   omega
  go_enter Tryz.func93, Tryz.ntmps93
  go_wp2_with (first
   | (refine wpList_alloc_agg rfl 94 rfl (enc zeroS) zero33 ?_; simp only [pU])
   | (refine wpList_store_blk rfl 94 _ _ rfl w.heap.size 0 94 (enc zeroS) (enc zeroS) (by rfl) (by rfl) (by first | exact Blk.new w _ _ | exact (Blk.new w _ _).alloc _) (Nat.le_of_eq (Nat.zero_add _)) hI.out (enc_one _) ?_; intro w2 o2 z2 b2; simp only [Act.put]))
  rw [lay_all _ _ rfl] at b2
  refine bodyPost_ret (results_cell_tmp_blk rfl _ _ w.heap.size 94 _ _ (by rfl) b2 hu.out rfl hI.out) rfl ⟨rfl, ?_⟩
  exact ((Below.refl _ _).alloc (Nat.le_refl _) _).trans (o2.below (by simp) (fun i hi => by omega))
def curAt (d : Dev) (i j : Nat) : Slb := ((over d.kept (d.written.take j))[i]?).getD zeroS
theorem curAt_128 {d : Dev} (h : d.Good) (i j : Nat) : (curAt d i j).length = 128 := by
 unfold curAt
 cases hg : (over d.kept (d.written.take j))[i]? with
 | none => exact zeroS_length
 | some s => exact over_128 _ _ h.k128 (fun q hq => (h.wat q (List.mem_of_mem_take hq)).2) s (List.mem_of_getElem? hg)
theorem curAt_next {d : Dev} (i j : Nat) (p : Nat × Slb) (hp : d.written[j]? = some p) (hi : i < d.kept.length) : curAt d i (j + 1) = if p.1 = i then p.2 else curAt d i j := by
 unfold curAt
 rw [over_take_succ _ _ _ _ hp]
 by_cases h : p.1 = i
 ·rw [if_pos h, h, List.getElem?_set_self (by rw [over_length]; exact hi)]; rfl
 ·rw [if_neg h, List.getElem?_set_ne h]
theorem docread_yes (w : World) (b : Nat) (F : Nat → Prop) (d : Dev) (i : Nat) (h : DocRep w b F d) (hh : d.has i = true) (hok : d.Ok) (hwl : d.written.length ≤ 1000000) :
  Calls Tryz.prog 93 #[.pointer (some ⟨b, 0, none⟩), .int .i64 i] w fun e w' => e = .returned (.tuple #[.agg (enc (d.read i).1).toArray, .int .i64 (d.read i).2]) ∧ Below w.heap.size w w' := by
 have hG := h.good
 have hb : i < d.kept.length := by simp only [Dev.has, Bool.and_eq_true, decide_eq_true_eq] at hh; omega
 obtain ⟨sl, hsl⟩ : ∃ sl, d.kept[i]? = some sl := ⟨_, List.getElem?_eq_getElem hb⟩
 have h128 : sl.length = 128 := hG.k128 sl (List.mem_of_getElem? hsl)
 have hI := hide (isz33' sl h128)
 have hu := hide Tryz.underlying94
 obtain ⟨k, wv, m, hi, _, hF⟩ := h
 have i0 : (0 : Int) ≤ (i : Int) := by omega
 have i1 : (i : Int) < (d.kept.length : Int) := by omega
 have c0 : (w.alloc (.cells (enc zeroS).toArray 94)).cell? ⟨b, 0, none⟩ = some (.slice (some ⟨k, 0, none⟩) d.kept.length d.kept.length) := ((hi.1.alloc _).cell 0).trans rfl
 have c1 : ((w.alloc (.cells (enc zeroS).toArray 94)).alloc (.cells (enc zeroS).toArray 94)).cell? ⟨b, 0, none⟩ = some (.slice (some ⟨k, 0, none⟩) d.kept.length d.kept.length) := (((hi.1.alloc _).alloc _).cell 0).trans rfl
 obtain ⟨A, c, hA, hrow⟩ := own_cases hi.2.2.1
 subst hA
 have HI := hide hi
 have K2 : Hid (Blk (w.alloc (.cells (enc zeroS).toArray 94)) k 94 (rows d.kept)) := hi.2.1.alloc _
 have HD : Hid (d.read i = (curAt d i d.written.length, 0)) := by
  show _ = _
  simp only [Dev.read, hh, if_true, Int.toNat_natCast, curAt, List.take_length]
  rw [hok]
 have H0 : Hid (curAt d i 0 = sl) := by show _ = _; simp [curAt, over, hsl]
 clear hi c1
 go_enter Tryz.func93, Tryz.ntmps93
 go_wp2_with (first
  | (refine wpList_alloc_agg rfl 94 rfl (enc zeroS) zero33 ?_; simp only [Act.put, List.setIfInBounds_toArray, List.set_cons_zero, List.set_cons_succ, World.size_alloc])
  | (refine wpList_load_blk rfl 94 _ rfl k (i * 128) 94 (rows d.kept) (enc sl) _ (by rfl) K2.out (rows_get d.kept i sl hG.k128 hsl) hu.out rfl hI.out ?_; simp only [pU])
  | (refine wpList_store_blk rfl 94 _ _ rfl (w.heap.size + 1) 0 94 (enc zeroS) (enc sl) (by rfl) (by rfl) (Blk.new1 w _ _ _) (Nat.le_of_eq (by rw [enc_length, enc_length, h128, zeroS_length])) hI.out (enc_one _) ?_; intro w2 o2 z2 b2; simp only [Act.put]; have c2 : w2.cell? ⟨b, 1, none⟩ = some (.slice A d.written.length c) := ((o2.blk ((HI.out.1.alloc _).alloc _) (by have := HI.out.1.lt; omega)).cell 1).trans rfl))
 rw [lay_all _ _ (by rw [enc_length, enc_length, h128, zeroS_length])] at b2
 have i2 : DocIn w2 b k (.slice A d.written.length c) m d := HI.out.keep ((((Only.refl (fun x => x = w.heap.size + 1) w).alloc _).alloc _).trans o2 (fun _ _ h => h)) (fun x hx e => by have := HI.out.lt x hx; omega)
 have r2 : Blk w2 w.heap.size 94 (enc zeroS) := o2.blk ((Blk.new w _ _).alloc _) (by omega)
 have bw2 : Below w.heap.size w w2 := (((Below.refl _ _).alloc (Nat.le_refl _) _).alloc (by simp) _).trans (o2.below (by simp; omega) (fun i hi => by omega))
 have hsz2 : w.heap.size + 2 ≤ w2.heap.size := by rw [z2]; simp
 rw [← H0.out] at b2
 have HB2 := hide bw2
 have HR2 := hide r2
 clear o2 z2 bw2 r2 c2
 have hwl' : (d.written.length : Int) ≤ 1000000 := by omega
 go_loopw [33] (fun u wr => ∃ j : Nat, j ≤ d.written.length ∧ u = .int .i64 j ∧ DocIn wr b k (.slice A d.written.length c) m d ∧ Blk wr (w.heap.size + 1) 94 (enc (curAt d i j)) ∧ Only (fun x => x = w.heap.size + 1) w2 wr) (fun u _ => d.written.length - (intOf u).toNat)
 case atStart => exact ⟨0, by omega, rfl, i2, b2, Only.refl _ _⟩
 case round =>
  obtain ⟨j, hj, rfl, hi, hbo, ho⟩ := hrel
  have hcl := curAt_128 hG i j
  have HCL := hide hcl
  have Icur := hide (isz33' (curAt d i j) hcl)
  have HBO := hide hbo
  have HO := hide ho
  clear hcl hbo ho
  by_cases hlt : j < d.written.length
  ·obtain ⟨g, hAg, cs, hcs, hget⟩ := hrow (by omega)
   obtain ⟨p, hp⟩ : ∃ p, d.written[j]? = some p := ⟨_, List.getElem?_eq_getElem hlt⟩
   have hpw := hG.wat p (List.mem_of_getElem? hp)
   have hnx := curAt_next i j p hp hb
   subst hAg
   obtain ⟨at_, sl2⟩ := p
   simp only at hpw hnx
   have hgH : g < w.heap.size := hcs.lt
   have hcr : Blk wr g 98 cs := (HO.out.blk ((HB2.out.block _ hgH).trans hcs) (by omega))
   have hget' : ∀ (i : Nat) (v : Value), (Value.int .i64 (at_ : Int) :: enc sl2)[i]? = some v → cs[j * 129 + i]? = some v :=
    fun i v hv => hget _ _ (wcells_get d.written j (at_, sl2) (fun q hq => (hG.wat q hq).2) hp i v hv)
   have I91 := hide (iszStep' at_ sl2 hpw.2)
   have I33 := hide (isz33' sl2 hpw.2)
   have u91 := hide Tryz.underlying98
   have j0 : (0 : Int) ≤ (j : Int) := by omega
   have j1 : (j : Int) < (d.written.length : Int) := by omega
   have HR := hide hi
   have HC := hide hcr
   have hzr : w2.heap.size ≤ wr.heap.size := HO.out.size
   have HNX := hide hnx
   clear hi hcr hcs hget hrow hp hnx
   by_cases he : at_ = i
   ·subst he
    rw [if_pos rfl] at HNX
    go_wp2_with (first
     | (refine wpList_load_blk rfl 98 _ rfl g (j * 129) 98 cs (Value.int .i64 (at_ : Int) :: enc sl2) _ (by rfl) HC.out hget' u91.out rfl I91.out ?_; simp only [pU])
     | (refine wpList_alloc_agg rfl 98 rfl (Value.int .i64 0 :: enc zeroS) zeroStep ?_; simp only [pU])
     | (refine wpList_store_blk rfl 98 _ _ rfl wr.heap.size 0 98 (Value.int .i64 0 :: enc zeroS) (Value.int .i64 (at_ : Int) :: enc sl2) (by rfl) (by rfl) (Blk.new wr _ _) (Nat.le_of_eq (by rw [chg_length _ _ hpw.2, chg_length _ _ zeroS_length])) I91.out (cons_one _ _) ?_; intro w3 o3 z3 b3; rw [lay_all _ _ (by rw [chg_length _ _ hpw.2, chg_length _ _ zeroS_length])] at b3; simp only [Act.put]; have B3 := hide b3; have c3 : w3.cell? ⟨wr.heap.size, 0, none⟩ = some (.int .i64 (at_ : Int)) := (b3.cell 0).trans rfl; clear b3)
     | (refine wpList_load_blk rfl 94 _ rfl wr.heap.size 1 98 (Value.int .i64 (at_ : Int) :: enc sl2) (enc sl2) _ (by rfl) B3.out (fun i v hv => by rw [Nat.add_comm, List.getElem?_cons_succ]; exact hv) hu.out rfl I33.out ?_; simp only [pU])
     | (refine wpList_store_blk rfl 94 _ _ rfl (w.heap.size + 1) 0 94 (enc (curAt d at_ j)) (enc sl2) (by rfl) (by rfl) (o3.blk (HBO.out.alloc _) (by omega)) (Nat.le_of_eq (by rw [enc_length, enc_length, hpw.2, HCL.out])) I33.out (enc_one _) ?_; intro w4 o4 z4 b4; simp only [Act.put]))
    rw [lay_all _ _ (by rw [enc_length, enc_length, hpw.2, HCL.out])] at b4
    have oX : Only (fun x => x = wr.heap.size) wr w3 := ((Only.refl _ wr).alloc _).trans o3 (fun _ _ h => h)
    go_roundw
    case rel =>
     refine ⟨j + 1, by omega, by go_num, ?_, by rw [HNX.out]; exact b4, ?_⟩
     ·exact (HR.out.keep1 oX (Nat.le_refl _)).keep o4 (fun x hx e => by have := HI.out.lt x hx; omega)
     ·exact (HO.out.trans oX (fun x hx e => by omega)).trans o4 (fun _ _ h => h)
    case measure => simp [intOf]; omega
   ·rw [if_neg he] at HNX
    go_wp2_with (first
     | (refine wpList_load_blk rfl 98 _ rfl g (j * 129) 98 cs (Value.int .i64 (at_ : Int) :: enc sl2) _ (by rfl) HC.out hget' u91.out rfl I91.out ?_; simp only [pU])
     | (refine wpList_alloc_agg rfl 98 rfl (Value.int .i64 0 :: enc zeroS) zeroStep ?_; simp only [pU])
     | (refine wpList_store_blk rfl 98 _ _ rfl wr.heap.size 0 98 (Value.int .i64 0 :: enc zeroS) (Value.int .i64 (at_ : Int) :: enc sl2) (by rfl) (by rfl) (Blk.new wr _ _) (Nat.le_of_eq (by rw [chg_length _ _ hpw.2, chg_length _ _ zeroS_length])) I91.out (cons_one _ _) ?_; intro w3 o3 z3 b3; rw [lay_all _ _ (by rw [chg_length _ _ hpw.2, chg_length _ _ zeroS_length])] at b3; simp only [Act.put]; have B3 := hide b3; have c3 : w3.cell? ⟨wr.heap.size, 0, none⟩ = some (.int .i64 (at_ : Int)) := (b3.cell 0).trans rfl; clear b3))
    have oX : Only (fun x => x = wr.heap.size) wr w3 := ((Only.refl _ wr).alloc _).trans o3 (fun _ _ h => h)
    go_roundw
    case rel =>
     refine ⟨j + 1, by omega, by go_num, HR.out.keep1 oX (Nat.le_refl _), by rw [HNX.out]; exact o3.blk (HBO.out.alloc _) (by omega), HO.out.trans oX (fun x hx e => by omega)⟩
    case measure => simp [intOf]; omega
  ·have hj' : j = d.written.length := by omega
   subst hj'
   have hzr : w2.heap.size ≤ wr.heap.size := HO.out.size
   clear hrow hi
   go_wp2_with (first
    | (refine wpList_load_blk rfl 94 _ rfl (w.heap.size + 1) 0 94 (enc (curAt d i d.written.length)) (enc (curAt d i d.written.length)) _ (by rfl) HBO.out (fun j v hv => by simpa using hv) hu.out rfl Icur.out ?_; simp only [pU])
    | (refine wpList_store_blk rfl 94 _ _ rfl w.heap.size 0 94 (enc zeroS) (enc (curAt d i d.written.length)) (by rfl) (by rfl) (HO.out.blk HR2.out (by omega)) (Nat.le_of_eq (by rw [enc_length, enc_length, HCL.out, zeroS_length])) Icur.out (enc_one _) ?_; intro w4 o4 z4 b4; simp only [Act.put]))
   rw [lay_all _ _ (by rw [enc_length, enc_length, HCL.out, zeroS_length])] at b4
   rw [HD.out]
   refine bodyPost_ret (results_cell_tmp_blk rfl _ _ w.heap.size 94 _ _ (by rfl) b4 hu.out rfl Icur.out) rfl ⟨rfl, ?_⟩
   exact (HB2.out.trans (HO.out.below (by omega) (fun x hx e => by omega))).trans (o4.below (by omega) (fun x hx e => by omega))
theorem docread_any (w : World) (b : Nat) (F : Nat → Prop) (d : Dev) (at_ : Int) (h : DocRep w b F d) (hok : d.Ok) (hwl : d.written.length ≤ 1000000) :
  Calls Tryz.prog 93 #[.pointer (some ⟨b, 0, none⟩), .int .i64 at_] w fun e w' => e = .returned (.tuple #[.agg (enc (d.read at_).1).toArray, .int .i64 (d.read at_).2]) ∧ Below w.heap.size w w' := by
 cases hh : d.has at_ with
 | false => exact docread_no w b F d at_ h hh
 | true =>
  obtain ⟨i, rfl⟩ : ∃ i : Nat, at_ = i := by
   simp only [Dev.has, Bool.and_eq_true, decide_eq_true_eq] at hh
   exact ⟨at_.toNat, by omega⟩
  exact docread_yes w b F d i h hh hok hwl
end
section
theorem half_two (R : Nat) (h : R ≤ 2048) : wrap64 (2 * (R : Int)) = 2 * (R : Int) := by rw [← IntWalk.i64_left, IntKind.wrap_i64]; omega
attribute [local go_sem ↓] loadSlab_fold
theorem top_any (w : World) (g b : Nat) (F : Nat → Prop) (d : Dev) (l : LogD) (hL : LogAt w g b l) (h : DevRep w b F d) (hb : d.Bytes) :
  Calls Tryz.prog 48 #[.pointer (some ⟨g, 0, none⟩)] w fun e w' => e = .returned (.int .u64 (topL d : Int)) ∧ Below w.heap.size w w' := by
 have D0 := hide h
 have L0 := hide hL
 have HG := hide h.good
 have HB := hide hb
 have hR : d.room ≤ 2048 := by have := h.good.few; unfold Dev.room; omega
 obtain ⟨R, hRR⟩ : ∃ R, R = d.room := ⟨_, rfl⟩
 have HRR := hide hRR
 rw [← hRR] at hR
 have r0 : (0 : Int) ≤ (R : Int) := by omega
 have r9 : (R : Int) ≤ 2048 := by omega
 have hPw := half_two R hR
 have hPw2 : IntKind.i64.wrap (2 * (R : Int)) = 2 * (R : Int) := by rw [IntKind.wrap_i64]; omega
 have HR := hide hR
 have c0 := hL.cd
 clear hRR h hb hR hL
 go_enter Tryz.func48, Tryz.ntmps48
 go_wp2_with (go_at_call 65; refine (room_any w b F d D0.out).mono ?_; rintro e wx ⟨rfl, rfl⟩; rw [← HRR.out])
 clear c0
 go_loopw [3, 13] (fun v i ws => ∃ j : Nat, j ≤ 2 * R ∧ i = .int .i64 (j : Int) ∧ v = .int .u64 (topTo d j : Int) ∧ Below w.heap.size w ws) (fun _ i _ => 2 * R - (intOf i).toNat)
 case atStart => exact ⟨0, by omega, rfl, rfl, Below.refl _ _⟩
 case round =>
  obtain ⟨j, hj, rfl, rfl, hbw⟩ := hrel
  have BW := hide hbw
  have DR := hide (D0.out.under hbw)
  have cR := (L0.out.under hbw).cd
  obtain ⟨T, hT⟩ : ∃ T, T = topTo d j := ⟨_, rfl⟩
  rw [← hT]
  have HT := hide hT
  have j0 : (0 : Int) ≤ (j : Int) := by omega
  have j9 : (j : Int) ≤ 4096 := by omega
  have t0 : (0 : Int) ≤ (T : Int) := by omega
  have HJ := hide hj
  clear hbw hT hj
  by_cases hlt : j < 2 * R
  ·have i1 : (j : Int) < 2 * (R : Int) := by omega
   obtain ⟨s, hs⟩ : ∃ s, s = d.slab j := ⟨_, rfl⟩
   have HSL := hide (show s.length = 128 by rw [hs]; exact HG.out.slab _)
   have HSB := hide (show Byt s by rw [hs]; exact HB.out.slab _)
   have HLT := hide hlt
   have HS := hide hs
   clear hlt hs
   go_wp2_with fail
   refine (read_any wr b F d _ DR.out).mono ?_
   rintro e w2 ⟨rfl, b2⟩
   rw [show (d.read (j : Int)).1 = s from (slab_read d j _ (by simp)).trans HS.out.symm]
   obtain ⟨E, hE⟩ : ∃ E, E = (d.read (j : Int)).2 := ⟨_, rfl⟩
   rw [← hE]
   have B2 := hide b2
   have KZ2 := hide (Blk.new w2 94 (enc zeroS))
   have hI := hide (isz33' s HSL.out)
   clear hE b2 cR
   go_wp2_with (first
    | (refine wpList_alloc_agg rfl 94 rfl (enc zeroS) zero33 ?_; simp only [pU])
    | (refine wpList_store_blk rfl 94 _ _ rfl w2.heap.size 0 94 (enc zeroS) (enc s) (by rfl) (by rfl) KZ2.out (Nat.le_of_eq (by rw [enc_length, enc_length, HSL.out, zeroS_length])) hI.out (enc_one _) ?_; intro w3 o3 z3 b3; rw [lay_all _ _ (by rw [enc_length, enc_length, HSL.out, zeroS_length])] at b3; have K3 := hide b3; have B23 := hide (show Below w2.heap.size w2 w3 from Below.trans ((Below.refl _ w2).alloc (Nat.le_refl _) _) (o3.below (by simp) (fun i hi e => by have h9 : i = w2.heap.size := e; omega))); have hld := loadSlabR w3 w2.heap.size 0 s b3.whole HSL.out; clear o3 z3 b3; simp only [Act.put]))
   refine (marked_any w3 s HSL.out HSB.out).mono ?_
   rintro e w4 ⟨rfl, b4⟩
   obtain ⟨G, hG⟩ : ∃ G, G = marked s := ⟨_, rfl⟩
   have HGG := hide hG
   rw [← hG]
   have g0 : (0 : Int) ≤ (G : Int) := by omega
   have B24 := hide (Below.then_ B23.out b4)
   have B04 := hide (Below.then_ B2.out B24.out)
   clear hld hG b4
   go_wp2_with fail
   refine ⟨⟨j + 1, by have := HLT.out; omega, by go_num, ?_, Below.then_ BW.out B04.out⟩, by have := HLT.out; simp [intOf]; omega⟩
   have he : topTo d (j + 1) = if T < G then G else T := by
    rw [topTo, ← HT.out, ← HS.out, ← HGG.out]; split <;> omega
   rw [he]
   by_cases hc : T < G
   ·rw [if_pos hc, if_pos hc]
   ·rw [if_neg hc, if_neg hc]
  ·have i1 : ¬ (j : Int) < 2 * (R : Int) := by omega
   have hjr : j = 2 * R := by have := HJ.out; omega
   have HE := hide hjr
   clear hlt hjr
   go_wp2_with fail
   go_ret
   refine ⟨?_, BW.out⟩
   rw [HT.out, HE.out, HRR.out]; rfl
theorem Ready_any (w : World) (g b : Nat) (l : LogD) (hL : LogAt w g b l) :
  Calls Tryz.prog 21 #[.pointer (some ⟨g, 0, none⟩)] w fun e w' => e = .returned (.bool l.ready) ∧ w = w' := by
 have c0 := hL.cready
 generalize l.ready = v at c0 ⊢
 clear hL
 go_enter Tryz.func21, Tryz.ntmps21
 go_wp2
 go_ret
 exact ⟨rfl, rfl⟩
def LogPost (w : World) (g b : Nat) (F : Nat → Prop) (r : Dev × LogD × Int) (e : Ending) (w' : World) : Prop :=
 e = .returned (.int .i64 r.2.2) ∧ ∃ F', DevRep w' b F' r.1 ∧ LogAt w' g b r.2.1 ∧ Only (fun i => F i ∨ i = g) w w' ∧ ∀ i, F' i → F i ∨ w.heap.size ≤ i
theorem LogAt.setReady {w : World} {g b : Nat} {l : LogD} (h : LogAt w g b l) (v : Bool) : LogAt (w.setCell ⟨g, 36, none⟩ (.bool v)) g b { l with ready := v } :=
 ⟨by rw [← log_setReady h.len]; exact h.blk.set_ 36 _, h.len, h.byt, h.half, h.mark⟩
theorem Sync_any (w : World) (g b : Nat) (F : Nat → Prop) (d : Dev) (l : LogD) (hL : LogAt w g b l) (h : DevRep w b F d) (hgF : ¬ F g) (hw : d.written.length ≤ 1000000) :
  Calls Tryz.prog 67 #[.pointer (some ⟨g, 0, none⟩)] w (LogPost w g b F (syncL d l)) := by
 have c0 := hL.cready
 have c1 := hL.cd
 obtain ⟨v, hv⟩ : ∃ v, v = l.ready := ⟨_, rfl⟩
 rw [← hv] at c0
 by_cases hr : v = false
 ·subst hr
  have hs : syncL d l = (d, l, 141) := by rw [syncL, if_pos hv.symm]
  rw [hs]
  have L0 := hide hL
  have D0 := hide h
  clear hL h hs hw hv
  go_enter Tryz.func67, Tryz.ntmps67
  go_wp2
  go_ret
  exact ⟨rfl, F, D0.out, L0.out, Only.refl _ _, fun _ h => .inl h⟩
 ·have hr2 : v = true := by simpa using hr
  subst hr2
  have hs : syncL d l = (d.sync.1, { l with ready := decide (d.sync.2 = 0) }, d.sync.2) := by rw [syncL, if_neg (by rw [← hv]; decide)]
  rw [hs]
  have HS := sync_any w b F d h hw
  have L0 := hide hL
  have D0 := hide h
  have hlt := h.lt
  obtain ⟨V, hV⟩ : ∃ V, V = d.sync.2 := ⟨_, rfl⟩
  obtain ⟨d', hd'⟩ : ∃ d', d' = d.sync.1 := ⟨_, rfl⟩
  rw [← hV, ← hd'] at HS ⊢
  have hgl := hL.blk.lt
  clear hL h hs hw hv hV hd'
  go_enter Tryz.func67, Tryz.ntmps67
  go_wp2_with (go_at_call 52; refine HS.mono ?_; rintro e w9 ⟨rfl, F9, h9, o9, f9⟩; have L9 := hide (L0.out.keep o9 hgF); have cr := L9.out.cready; have fr := L9.out.blk.frozen 36)
  go_ret
  refine ⟨rfl, F9, h9.keep (Only.cell1 w9 g 36 _) (fun i hi e => ?_), L9.out.setReady _, (o9.mono (fun i _ h => .inl h)).trans (Only.cell1 w9 g 36 _) (fun i _ h => .inr h), f9⟩
  have e9 : i = g := e
  subst e9
  rcases f9 _ hi with h | h
  ·exact hgF h
  ·omega
theorem wrap_left (R : Nat) (p : Int) (hr : R ≤ 2048) (h0 : 0 ≤ p) (h1 : p ≤ 10000) : IntKind.i64.wrap ((R : Int) - p) = (R : Int) - p := by rw [IntKind.wrap_i64]; omega
theorem LLeft_any (w : World) (g b : Nat) (F : Nat → Prop) (d : Dev) (l : LogD) (hL : LogAt w g b l) (h : DevRep w b F d) (h0 : 0 ≤ l.at_) (h1 : l.at_ ≤ 10000) :
  Calls Tryz.prog 100 #[.pointer (some ⟨g, 0, none⟩)] w fun e w' => e = .returned (.int .i64 (leftL d l)) ∧ Below w.heap.size w w' := by
 have c0 := hL.cready
 obtain ⟨v, hv⟩ : ∃ v, v = l.ready := ⟨_, rfl⟩
 rw [← hv] at c0
 have hR : d.room ≤ 2048 := by have := h.good.few; unfold Dev.room; omega
 have HW := hide (wrap_left d.room l.at_ hR h0 h1)
 have L0 := hide hL
 have D0 := hide h
 by_cases hr : v = false
 ·subst hr
  have hs : leftL d l = 0 := by rw [leftL, ← hv]; rfl
  rw [hs]
  clear hL h hs hv hR h0 h1
  go_enter Tryz.func100, Tryz.ntmps100
  go_wp2
  go_ret
  exact ⟨rfl, Below.refl _ _⟩
 ·have hr2 : v = true := by simpa using hr
  subst hr2
  have hs : leftL d l = (d.room : Int) - l.at_ := by rw [leftL, ← hv]; rfl
  rw [hs]
  obtain ⟨p, hp⟩ : ∃ p, p = l.at_ := ⟨_, rfl⟩
  have HC := hide (show ∀ w', Below w.heap.size w w' → w'.cell? ⟨g, 2, none⟩ = some (.int .i64 p) from fun w' hb => by rw [hp]; exact (L0.out.under hb).cat)
  rw [← hp] at HW h0 h1 ⊢
  obtain ⟨R, hRR⟩ : ∃ R, R = d.room := ⟨_, rfl⟩
  rw [← hRR] at HW hR ⊢
  have HRR := hide hRR
  have hR9 : (R : Int) ≤ 2048 := by omega
  have hR0 : (0 : Int) ≤ (R : Int) := by omega
  clear hL h hs hv hp hRR hr
  go_enter Tryz.func100, Tryz.ntmps100
  go_wp2_with fail
  refine wp_region_held_drew (S := fun w' => Below w.heap.size w w') (by kernel_rfl) ((Below.refl _ w).drew) (fun hSA0 => ?_)
  obtain ⟨wd, hwA⟩ : ∃ x, x = w.drew := ⟨_, rfl⟩
  rw [← hwA] at hSA0 ⊢
  clear hwA
  refine tq 0 rfl hSA0 ?_
  refine tq 1 rfl hSA0 ?_
  refine tq 2 rfl hSA0 ?_
  (refine tq 3 rfl hSA0 ?_ (fun w' hSw => by have z := (L0.out.under hSw).cd; go_simp; try with_reducible rfl))
  refine tq 5 rfl hSA0 ?_
  refine tq 6 rfl hSA0 ?_
  refine tq 7 rfl hSA0 ?_
  (refine tq 8 rfl hSA0 ?_ (fun w' hSw => by have z := HC.out w' hSw; go_simp; try with_reducible rfl))
  refine ry 4 rfl fun K hK => ?_
  go_simp
  go_simp
  go_wp2_with (go_at_call 65; refine (room_any wd b F d (D0.out.under hSA0)).mono ?_; rintro e wz ⟨rfl, hwz⟩; rw [← hwz]; clear hwz; rw [← HRR.out])
  refine hK.out _ _ (hSA0) (fun hSA1 => ?_)
  clear hK K
  (refine tq 9 rfl hSA1 ?_ (fun w' hSw => by have z := HW.out; go_simp; try with_reducible rfl))
  refine tq 10 rfl hSA1 ?_
  refine wpAnyH_done (by kernel_rfl) ?_ _
  go_wp2_with fail
  go_ret
  exact ⟨rfl, hSA1⟩
end
end Go.Proofs.YtjnpkcabkccaoaaGreat
