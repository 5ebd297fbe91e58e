/-
  The document's device: Read.
-/
import Derived.Test.YtjipgimnhkliaaaSlabJ
namespace Go.Proofs.Ytjipgimnhkliaaa
open Go.RowKit
attribute [local go_sem ↓] mkSlab_fold
attribute [local go_sem] mkSlab_run

set_option maxHeartbeats 400000 in
set_option maxRecDepth 100000 in
theorem docread_no (w : World) (b : Nat) (F : Nat → Prop) (d : Dev) (at_ : Int) (h : DocRep w b F d) (hh : d.has at_ = false) :
    Calls Try.prog 29 #[.pointer (some ⟨b, 0, none⟩), .int .i64 at_] w fun e w' => e = .returned (.tuple #[.agg (enc (d.read at_).1).toArray, .int .i64 (d.read at_).2]) ∧ Below w.heap.size w w' := by
  have hr : d.read at_ = (zeroS, 131) := by simp [Dev.read, hh]
  rw [hr]
  have hI := hide (isz33' zeroS zeroS_length)
  have hu := hide Try.underlying33
  obtain ⟨k0, wv0, m0, hi0, _, hF0⟩ := h
  have c0 : (w.alloc (.cells (enc zeroS).toArray 33)).cell? ⟨b, 0, none⟩ = some (.slice (some ⟨k0, 0, none⟩) d.kept.length d.kept.length) := ((hi0.1.alloc _).cell 0).trans rfl
  have c1 : ((w.alloc (.cells (enc zeroS).toArray 33)).alloc (.cells (enc zeroS).toArray 33)).cell? ⟨b, 0, none⟩ = some (.slice (some ⟨k0, 0, none⟩) d.kept.length d.kept.length) := (((hi0.1.alloc _).alloc _).cell 0).trans rfl
  clear hi0 hF0
  by_cases hneg : at_ < 0
  · go_enter Try.func29, Try.ntmps29
    go_wp2_with (first
      | (refine wpList_alloc_agg rfl 33 rfl (enc zeroS) zero33 ?_; simp only [Act.put, List.setIfInBounds_toArray, List.set_cons_zero, List.set_cons_succ])
      | (refine wpList_store_blk rfl 33 _ _ rfl w.heap.size 0 33 (enc zeroS) (enc zeroS) (by rfl) (by rfl) (by first | exact Blk.new w _ _ | exact (Blk.new w _ _).alloc _) (Nat.le_of_eq (Nat.zero_add _)) hI.out (enc_one _) ?_; intro w2 o2 z2 b2; simp only [Act.put]))
    rw [lay_all _ _ rfl] at b2
    refine bodyPost_ret (results_cell_tmp_blk rfl _ _ w.heap.size 33 _ _ (by rfl) b2 hu.out rfl hI.out) rfl ⟨rfl, ?_⟩
    exact ((Below.refl _ _).alloc (Nat.le_refl _) _).trans (o2.below (by simp) (fun i hi => by omega))
  · have hge : (d.kept.length : Int) ≤ at_ := by
      simp only [Dev.has, Bool.and_eq_false_iff, decide_eq_false_iff_not] at hh
      omega
    go_enter Try.func29, Try.ntmps29
    go_wp2_with (first
      | (refine wpList_alloc_agg rfl 33 rfl (enc zeroS) zero33 ?_; simp only [Act.put, List.setIfInBounds_toArray, List.set_cons_zero, List.set_cons_succ])
      | (refine wpList_store_blk rfl 33 _ _ rfl w.heap.size 0 33 (enc zeroS) (enc zeroS) (by rfl) (by rfl) (by first | exact Blk.new w _ _ | exact (Blk.new w _ _).alloc _) (Nat.le_of_eq (Nat.zero_add _)) hI.out (enc_one _) ?_; intro w2 o2 z2 b2; simp only [Act.put]))
    rw [lay_all _ _ rfl] at b2
    refine bodyPost_ret (results_cell_tmp_blk rfl _ _ w.heap.size 33 _ _ (by rfl) b2 hu.out rfl hI.out) rfl ⟨rfl, ?_⟩
    exact ((Below.refl _ _).alloc (Nat.le_refl _) _).trans (o2.below (by simp) (fun i hi => by omega))
/-- What the loop holds behind j rounds. -/
def curAt (d : Dev) (i j : Nat) : Slb := ((over d.kept (d.written.take j))[i]?).getD zeroS
theorem curAt_128 {d : Dev} (h : d.Good) (i j : Nat) : (curAt d i j).length = 128 := by
  unfold curAt
  cases hg : (over d.kept (d.written.take j))[i]? with
  | none => exact zeroS_length
  | some s => exact over_128 _ _ h.k128 (fun q hq => (h.wat q (List.mem_of_mem_take hq)).2) s (List.mem_of_getElem? hg)
theorem curAt_next {d : Dev} (i j : Nat) (p : Nat × Slb) (hp : d.written[j]? = some p) (hi : i < d.kept.length) : curAt d i (j + 1) = if p.1 = i then p.2 else curAt d i j := by
  unfold curAt
  rw [over_take_succ _ _ _ _ hp]
  by_cases h : p.1 = i
  · rw [if_pos h, h, List.getElem?_set_self (by rw [over_length]; exact hi)]; rfl
  · rw [if_neg h, List.getElem?_set_ne h]
set_option maxHeartbeats 1000000 in
set_option maxRecDepth 100000 in
theorem docread_yes (w : World) (b : Nat) (F : Nat → Prop) (d : Dev) (i : Nat) (h : DocRep w b F d) (hh : d.has i = true) (hok : d.Ok) (hwl : d.written.length ≤ 1000000) :
    Calls Try.prog 29 #[.pointer (some ⟨b, 0, none⟩), .int .i64 i] w fun e w' => e = .returned (.tuple #[.agg (enc (d.read i).1).toArray, .int .i64 (d.read i).2]) ∧ Below w.heap.size w w' := by
  have hG := h.good
  have hb : i < d.kept.length := by simp only [Dev.has, Bool.and_eq_true, decide_eq_true_eq] at hh; omega
  obtain ⟨sl, hsl⟩ : ∃ sl, d.kept[i]? = some sl := ⟨_, List.getElem?_eq_getElem hb⟩
  have h128 : sl.length = 128 := hG.k128 sl (List.mem_of_getElem? hsl)
  have hI := hide (isz33' sl h128)
  have hu := hide Try.underlying33
  obtain ⟨k, wv, m, hi, _, hF⟩ := h
  have i0 : (0 : Int) ≤ (i : Int) := by omega
  have i1 : (i : Int) < (d.kept.length : Int) := by omega
  have c0 : (w.alloc (.cells (enc zeroS).toArray 33)).cell? ⟨b, 0, none⟩ = some (.slice (some ⟨k, 0, none⟩) d.kept.length d.kept.length) := ((hi.1.alloc _).cell 0).trans rfl
  have c1 : ((w.alloc (.cells (enc zeroS).toArray 33)).alloc (.cells (enc zeroS).toArray 33)).cell? ⟨b, 0, none⟩ = some (.slice (some ⟨k, 0, none⟩) d.kept.length d.kept.length) := (((hi.1.alloc _).alloc _).cell 0).trans rfl
  obtain ⟨A, c, hA, hrow⟩ := own_cases hi.2.2.1
  subst hA
  have HI := hide hi
  have K2 : Hid (Blk (w.alloc (.cells (enc zeroS).toArray 33)) k 33 (rows d.kept)) := hi.2.1.alloc _
  have HD : Hid (d.read i = (curAt d i d.written.length, 0)) := by
    show _ = _
    simp only [Dev.read, hh, if_true, Int.toNat_natCast, curAt, List.take_length]
    rw [hok]
  have H0 : Hid (curAt d i 0 = sl) := by show _ = _; simp [curAt, over, hsl]
  clear hi c1
  go_enter Try.func29, Try.ntmps29
  go_wp2_with (first
    | (refine wpList_alloc_agg rfl 33 rfl (enc zeroS) zero33 ?_; simp only [Act.put, List.setIfInBounds_toArray, List.set_cons_zero, List.set_cons_succ, World.size_alloc])
    | (refine wpList_load_blk rfl 33 _ rfl k (i * 128) 33 (rows d.kept) (enc sl) _ (by rfl) K2.out (rows_get d.kept i sl hG.k128 hsl) hu.out rfl hI.out ?_; simp only [Act.put, List.setIfInBounds_toArray, List.set_cons_zero, List.set_cons_succ])
    | (refine wpList_store_blk rfl 33 _ _ rfl (w.heap.size + 1) 0 33 (enc zeroS) (enc sl) (by rfl) (by rfl) (Blk.new1 w _ _ _) (Nat.le_of_eq (by rw [enc_length, enc_length, h128, zeroS_length])) hI.out (enc_one _) ?_; intro w2 o2 z2 b2; simp only [Act.put]; have c2 : w2.cell? ⟨b, 1, none⟩ = some (.slice A d.written.length c) := ((o2.blk ((HI.out.1.alloc _).alloc _) (by have := HI.out.1.lt; omega)).cell 1).trans rfl))
  rw [lay_all _ _ (by rw [enc_length, enc_length, h128, zeroS_length])] at b2
  have i2 : DocIn w2 b k (.slice A d.written.length c) m d := HI.out.keep ((((Only.refl (fun x => x = w.heap.size + 1) w).alloc _).alloc _).trans o2 (fun _ _ h => h)) (fun x hx e => by have := HI.out.lt x hx; omega)
  have r2 : Blk w2 w.heap.size 33 (enc zeroS) := o2.blk ((Blk.new w _ _).alloc _) (by omega)
  have bw2 : Below w.heap.size w w2 := (((Below.refl _ _).alloc (Nat.le_refl _) _).alloc (by simp) _).trans (o2.below (by simp; omega) (fun i hi => by omega))
  have hsz2 : w.heap.size + 2 ≤ w2.heap.size := by rw [z2]; simp
  rw [← H0.out] at b2
  have HB2 := hide bw2
  have HR2 := hide r2
  clear o2 z2 bw2 r2 c2
  have hwl' : (d.written.length : Int) ≤ 1000000 := by omega
  go_loopw [33] (fun u wr => ∃ j : Nat, j ≤ d.written.length ∧ u = .int .i64 j ∧ DocIn wr b k (.slice A d.written.length c) m d ∧ Blk wr (w.heap.size + 1) 33 (enc (curAt d i j)) ∧ Only (fun x => x = w.heap.size + 1) w2 wr) (fun u _ => d.written.length - (intOf u).toNat)
  case atStart => exact ⟨0, by omega, rfl, i2, b2, Only.refl _ _⟩
  case round =>
    obtain ⟨j, hj, rfl, hi, hbo, ho⟩ := hrel
    have hcl := curAt_128 hG i j
    have HCL := hide hcl
    have Icur := hide (isz33' (curAt d i j) hcl)
    have HBO := hide hbo
    have HO := hide ho
    clear hcl hbo ho
    by_cases hlt : j < d.written.length
    · obtain ⟨g, hAg, cs, hcs, hget⟩ := hrow (by omega)
      obtain ⟨p, hp⟩ : ∃ p, d.written[j]? = some p := ⟨_, List.getElem?_eq_getElem hlt⟩
      have hpw := hG.wat p (List.mem_of_getElem? hp)
      have hnx := curAt_next i j p hp hb
      subst hAg
      obtain ⟨at_, sl2⟩ := p
      simp only at hpw hnx
      have hgH : g < w.heap.size := hcs.lt
      have hcr : Blk wr g 94 cs := (HO.out.blk ((HB2.out.block _ hgH).trans hcs) (by omega))
      have hget' : ∀ (i : Nat) (v : Value), (Value.int .i64 (at_ : Int) :: enc sl2)[i]? = some v → cs[j * 129 + i]? = some v :=
        fun i v hv => hget _ _ (wcells_get d.written j (at_, sl2) (fun q hq => (hG.wat q hq).2) hp i v hv)
      have I91 := hide (iszStep' at_ sl2 hpw.2)
      have I33 := hide (isz33' sl2 hpw.2)
      have u91 := hide Try.underlying94
      have j0 : (0 : Int) ≤ (j : Int) := by omega
      have j1 : (j : Int) < (d.written.length : Int) := by omega
      have HR := hide hi
      have HC := hide hcr
      have hzr : w2.heap.size ≤ wr.heap.size := HO.out.size
      have HNX := hide hnx
      clear hi hcr hcs hget hrow hp hnx
      by_cases he : at_ = i
      · subst he
        rw [if_pos rfl] at HNX
        go_wp2_with (first
          | (refine wpList_load_blk rfl 94 _ rfl g (j * 129) 94 cs (Value.int .i64 (at_ : Int) :: enc sl2) _ (by rfl) HC.out hget' u91.out rfl I91.out ?_; simp only [Act.put, List.setIfInBounds_toArray, List.set_cons_zero, List.set_cons_succ])
          | (refine wpList_alloc_agg rfl 94 rfl (Value.int .i64 0 :: enc zeroS) zeroStep ?_; simp only [Act.put, List.setIfInBounds_toArray, List.set_cons_zero, List.set_cons_succ])
          | (refine wpList_store_blk rfl 94 _ _ rfl wr.heap.size 0 94 (Value.int .i64 0 :: enc zeroS) (Value.int .i64 (at_ : Int) :: enc sl2) (by rfl) (by rfl) (Blk.new wr _ _) (Nat.le_of_eq (by rw [chg_length _ _ hpw.2, chg_length _ _ zeroS_length])) I91.out (cons_one _ _) ?_; intro w3 o3 z3 b3; rw [lay_all _ _ (by rw [chg_length _ _ hpw.2, chg_length _ _ zeroS_length])] at b3; simp only [Act.put]; have B3 := hide b3; have c3 : w3.cell? ⟨wr.heap.size, 0, none⟩ = some (.int .i64 (at_ : Int)) := (b3.cell 0).trans rfl; clear b3)
          | (refine wpList_load_blk rfl 33 _ rfl wr.heap.size 1 94 (Value.int .i64 (at_ : Int) :: enc sl2) (enc sl2) _ (by rfl) B3.out (fun i v hv => by rw [Nat.add_comm, List.getElem?_cons_succ]; exact hv) hu.out rfl I33.out ?_; simp only [Act.put, List.setIfInBounds_toArray, List.set_cons_zero, List.set_cons_succ])
          | (refine wpList_store_blk rfl 33 _ _ rfl (w.heap.size + 1) 0 33 (enc (curAt d at_ j)) (enc sl2) (by rfl) (by rfl) (o3.blk (HBO.out.alloc _) (by omega)) (Nat.le_of_eq (by rw [enc_length, enc_length, hpw.2, HCL.out])) I33.out (enc_one _) ?_; intro w4 o4 z4 b4; simp only [Act.put]))
        rw [lay_all _ _ (by rw [enc_length, enc_length, hpw.2, HCL.out])] at b4
        have oX : Only (fun x => x = wr.heap.size) wr w3 := ((Only.refl _ wr).alloc _).trans o3 (fun _ _ h => h)
        go_roundw
        case rel =>
          refine ⟨j + 1, by omega, by go_num, ?_, by rw [HNX.out]; exact b4, ?_⟩
          · exact (HR.out.keep1 oX (Nat.le_refl _)).keep o4 (fun x hx e => by have := HI.out.lt x hx; omega)
          · exact (HO.out.trans oX (fun x hx e => by omega)).trans o4 (fun _ _ h => h)
        case measure => simp [intOf]; omega
      · rw [if_neg he] at HNX
        go_wp2_with (first
          | (refine wpList_load_blk rfl 94 _ rfl g (j * 129) 94 cs (Value.int .i64 (at_ : Int) :: enc sl2) _ (by rfl) HC.out hget' u91.out rfl I91.out ?_; simp only [Act.put, List.setIfInBounds_toArray, List.set_cons_zero, List.set_cons_succ])
          | (refine wpList_alloc_agg rfl 94 rfl (Value.int .i64 0 :: enc zeroS) zeroStep ?_; simp only [Act.put, List.setIfInBounds_toArray, List.set_cons_zero, List.set_cons_succ])
          | (refine wpList_store_blk rfl 94 _ _ rfl wr.heap.size 0 94 (Value.int .i64 0 :: enc zeroS) (Value.int .i64 (at_ : Int) :: enc sl2) (by rfl) (by rfl) (Blk.new wr _ _) (Nat.le_of_eq (by rw [chg_length _ _ hpw.2, chg_length _ _ zeroS_length])) I91.out (cons_one _ _) ?_; intro w3 o3 z3 b3; rw [lay_all _ _ (by rw [chg_length _ _ hpw.2, chg_length _ _ zeroS_length])] at b3; simp only [Act.put]; have B3 := hide b3; have c3 : w3.cell? ⟨wr.heap.size, 0, none⟩ = some (.int .i64 (at_ : Int)) := (b3.cell 0).trans rfl; clear b3))
        have oX : Only (fun x => x = wr.heap.size) wr w3 := ((Only.refl _ wr).alloc _).trans o3 (fun _ _ h => h)
        go_roundw
        case rel =>
          refine ⟨j + 1, by omega, by go_num, HR.out.keep1 oX (Nat.le_refl _), by rw [HNX.out]; exact o3.blk (HBO.out.alloc _) (by omega), HO.out.trans oX (fun x hx e => by omega)⟩
        case measure => simp [intOf]; omega
    · have hj' : j = d.written.length := by omega
      subst hj'
      have hzr : w2.heap.size ≤ wr.heap.size := HO.out.size
      clear hrow hi
      go_wp2_with (first
        | (refine wpList_load_blk rfl 33 _ rfl (w.heap.size + 1) 0 33 (enc (curAt d i d.written.length)) (enc (curAt d i d.written.length)) _ (by rfl) HBO.out (fun j v hv => by simpa using hv) hu.out rfl Icur.out ?_; simp only [Act.put, List.setIfInBounds_toArray, List.set_cons_zero, List.set_cons_succ])
        | (refine wpList_store_blk rfl 33 _ _ rfl w.heap.size 0 33 (enc zeroS) (enc (curAt d i d.written.length)) (by rfl) (by rfl) (HO.out.blk HR2.out (by omega)) (Nat.le_of_eq (by rw [enc_length, enc_length, HCL.out, zeroS_length])) Icur.out (enc_one _) ?_; intro w4 o4 z4 b4; simp only [Act.put]))
      rw [lay_all _ _ (by rw [enc_length, enc_length, HCL.out, zeroS_length])] at b4
      rw [HD.out]
      refine bodyPost_ret (results_cell_tmp_blk rfl _ _ w.heap.size 33 _ _ (by rfl) b4 hu.out rfl Icur.out) rfl ⟨rfl, ?_⟩
      exact (HB2.out.trans (HO.out.below (by omega) (fun x hx e => by omega))).trans (o4.below (by omega) (fun x hx e => by omega))
theorem docread_any (w : World) (b : Nat) (F : Nat → Prop) (d : Dev) (at_ : Int) (h : DocRep w b F d) (hok : d.Ok) (hwl : d.written.length ≤ 1000000) :
    Calls Try.prog 29 #[.pointer (some ⟨b, 0, none⟩), .int .i64 at_] w fun e w' => e = .returned (.tuple #[.agg (enc (d.read at_).1).toArray, .int .i64 (d.read at_).2]) ∧ Below w.heap.size w w' := by
  cases hh : d.has at_ with
  | false => exact docread_no w b F d at_ h hh
  | true =>
    obtain ⟨i, rfl⟩ : ∃ i : Nat, at_ = i := by
      simp only [Dev.has, Bool.and_eq_true, decide_eq_true_eq] at hh
      exact ⟨at_.toNat, by omega⟩
    exact docread_yes w b F d i h hh hok hwl
end Go.Proofs.Ytjipgimnhkliaaa
