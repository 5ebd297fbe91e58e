/-
  coin: references, read; the document's.
-/
import Derived.Test.YtfloclamdpageaaRefSeal
import Derived.Test.YtfloclamdpageaaCoinR
import Derived.Test.YtfloclamdpageaaCoinS
namespace Go.Proofs.Ytfloclamdpageaa
open Go.RowKit

def Rd.ref (r : Rd) : RefD × Rd := if ((r.raw 32).2.fixed 4).2.err ≠ 0 then (zeroR, ((r.raw 32).2.fixed 4).2) else (⟨(r.raw 32).1, ((r.raw 32).2.fixed 4).1⟩, ((r.raw 32).2.fixed 4).2)
theorem ref_eq (r : Rd) (X : List Int) (r1 : Rd) (F : Nat) (r2 : Rd) (h1 : r.raw 32 = (X, r1)) (h2 : r1.fixed 4 = (F, r2)) : r.ref = if r2.err ≠ 0 then (zeroR, r2) else (⟨X, F⟩, r2) := by
  simp only [Rd.ref, h1, h2]
theorem raw_ok (r : Rd) (k : Int) (h : (r.raw k).2.err = 0) : r.err = 0 := by
  apply Classical.byContradiction
  intro he
  have : r.raw k = ([], r) := by simp [Rd.raw, he]
  rw [this] at h
  exact he h
theorem raw_full (r : Rd) (k : Int) (hk : 1 ≤ k) (h : (r.raw k).2.err = 0) : (r.raw k).1.length = k.toNat := by
  have h0 := raw_ok r k h
  unfold Rd.raw at h ⊢
  have hk1 : ¬ k < 1 := by omega
  simp only [h0, ne_eq, not_true_eq_false, false_or, hk1, if_false] at h ⊢
  by_cases hl : (r.rest.length : Int) < k
  · rw [if_pos hl] at h; exact absurd h (by show ¬ (61 : Int) = 0; decide)
  · rw [if_neg hl, List.length_take]; omega
theorem fixed_u32 (r : Rd) (h : Byt r.rest) : (r.fixed 4).1 < 4294967296 := by
  have h1 := num_lt _ (raw_byt r (Rd.within 4) h)
  have h2 := raw_length r (Rd.within 4) 4 (by decide)
  have h3 : 256 ^ (r.raw (Rd.within 4)).1.length ≤ 256 ^ 4 := Nat.pow_le_pow_right (by decide) h2
  unfold Rd.fixed
  simp only
  have h4 : (256 : Nat) ^ 4 = 4294967296 := by decide
  omega
def RefPost (T : TypeId) (w : World) (g h : Nat) (r' : Rd) (d : RefD) (e : Ending) (w' : World) : Prop :=
  e = .returned (.agg d.cells.toArray) ∧ d.Fine ∧ RdAt T w' g h r' ∧ Only (fun i => i = g) w w'
theorem bys_range {w : World} {b off n : Nat} {bs : List Int} (h : Bys w (some ⟨b, off, none⟩) n bs) (hn : 0 < n) : w.rangeAt b off (bs.map (Value.int .u8)) := by
  obtain ⟨b', off', e, hc⟩ := h.2.2 hn
  injection e with e
  injection e with e1 e2
  subst e1
  subst e2
  intro j v hv
  rw [List.getElem?_map] at hv
  cases hx : bs[j]? with
  | none => rw [hx] at hv; cases hv
  | some x =>
    rw [hx] at hv
    simp at hv
    rw [hc j x hx, hv]
theorem arrayAt_run (a : Addr) (c : Nat) (w : World) : (Instr.arrayAt 44 (.slice (some a) 32 c)).run Try.prog w = .ok (.pointer (some a)) w := by
  unfold Instr.arrayAt
  simp [run_underlying Try.underlying44]
attribute [local go_sem ↓] mkRef_fold loadHash_fold loadRef_fold
attribute [local go_sem] mkRef_zero
set_option maxHeartbeats 4000000 in
set_option maxRecDepth 100000 in
theorem RefRead_any (w : World) (g h : Nat) (r : Rd) (hR : RdAt 99 w g h r) :
    Calls Try.prog 32 #[.pointer (some ⟨g, 0, none⟩)] w (RefPost 99 w g h r.ref.2 r.ref.1) := by
  have hgl := hR.lt.1
  have hhl := hR.lt.2
  have hne := hide (show ¬ w.heap.size = g by omega)
  have hnh := hide (show ¬ w.heap.size = h by omega)
  have hR0 := hR.below ((Below.refl _ w).alloc (Nat.le_refl _) (.cells zeroR.cells.toArray 47))
  have BZ := hide (Blk.new w 47 zeroR.cells)
  have O0 := hide (Only.alloc0 (F := fun i => i = g) w (.cells zeroR.cells.toArray 47))
  have hby := hide (show Byt r.rest by obtain ⟨_, _, _, _, hB2, _⟩ := hR0; exact hB2.2.1)
  clear hR
  go_enter Try.func32, Try.ntmps32
  go_wp2_with (refine wpList_alloc_agg rfl 47 rfl zeroR.cells zeroRef ?_; simp only [Act.put, List.setIfInBounds_toArray, List.set_cons_zero, List.set_cons_succ])
  refine (Raw_any _ g h _ 32 hR0).mono ?_
  rintro e w1 ⟨A1, n1, c1, rfl, hB1, hc1, hf1, hR1, o1⟩
  have hrb := hide (raw_byt r 32 hby.out)
  obtain ⟨X, r1, h1⟩ : ∃ X r1, r.raw 32 = (X, r1) := ⟨_, _, rfl⟩
  have hfull := raw_full r 32 (by decide)
  rw [h1] at hR1 hB1 hrb hfull
  simp only at hR1 hB1 hrb hfull
  have B1 := hide (o1.blk BZ.out hne.out)
  have O1 := hide (O0.out.trans o1 (fun _ _ h => h))
  have hf1b := hide (show ∀ ad, A1 = some ad → w.heap.size < ad.block from fun ad e => by have h1 := hf1 ad e; simp at h1; omega)
  have hf1c := hide (show ∀ ad, A1 = some ad → ad.block ≠ g from fun ad e => by have h1 := hf1 ad e; simp at h1; omega)
  clear BZ O0 o1 hR0 hf1
  go_wp2_with fail
  refine (RFixed_any _ g h _ 4 hR1).mono ?_
  rintro e w2 ⟨rfl, hR2, o2⟩
  have hF := fixed_u32 r1 (by obtain ⟨_, _, _, _, hB2, _⟩ := hR1; exact hB2.2.1)
  have hok := fixed_ok r1 4
  obtain ⟨F, r2, h2⟩ : ∃ F r2, r1.fixed 4 = (F, r2) := ⟨_, _, rfl⟩
  have HO := hide (ref_eq r X r1 F r2 h1 h2)
  rw [h2] at hR2 hF hok ⊢
  simp only at hR2 hF hok ⊢
  have B2 := hide (o2.blk B1.out hne.out)
  have O2 := hide (O1.out.trans o2 (fun _ _ h => h))
  have hB2 := hB1.keep o2 (fun _ ad e hf => hf1c.out ad e hf)
  clear B1 O1 o2 hR1 hB1 h1 h2
  have hconv : IntKind.u32.wrap (F : Int) = (F : Int) := by rw [IntKind.wrap_u32]; omega
  have HF := hide hF
  go_wp2_with fail
  refine (Err_any _ g h _ hR2).mono ?_
  rintro e w3 ⟨rfl, rfl⟩
  have HU := hide Try.underlying47
  by_cases he : r2.err = 0
  · have hO := HO.out
    rw [if_neg (fun h => h he)] at hO
    have HO2 := hide hO
    have hX := hfull (hok he)
    have hX32 : X.length = 32 := by rw [hX]; rfl
    have hn1 : n1 = 32 := by rw [← hB2.1]; exact hX32
    subst hn1
    obtain ⟨b, off, hA, _⟩ := hB2.2.2 (by decide)
    subst hA
    have hl := loadHash_run w2 b off X (bys_range hB2 (by decide)) hX32
    have hm := mkRef_run X (F : Int) hX32
    have ha := arrayAt_run ⟨b, off, none⟩ c1
    have HFine := hide (show RefD.Fine ⟨X, (F : Int)⟩ from ⟨hX32, hrb.out, by show (0 : Int) ≤ (F : Int); omega, by show (F : Int) < 4294967296; omega⟩)
    clear hO HO hfull hok hX hX32 hB2 hF
    go_wp2_with (refine wpList_store_blk rfl 47 _ _ rfl w.heap.size 0 47 zeroR.cells (RefD.cells ⟨X, (F : Int)⟩) (by rfl) (by rfl) B2.out (by rw [RefD.cells_len HFine.out, RefD.cells_len zeroR_fine]; exact Nat.le_refl _) (by rw [RefD.cells_len HFine.out]; exact isRef) (RefD.one _) ?_; intro w9 o9 z9 b9; simp only [Act.put])
    rw [lay_all _ _ (by rw [RefD.cells_len HFine.out, RefD.cells_len zeroR_fine])] at b9
    refine bodyPost_ret (results_cell_blk rfl _ _ w.heap.size 47 _ _ (by rfl) b9 HU.out rfl (by rw [RefD.cells_len HFine.out]; exact isRef)) rfl ⟨?_, ?_, ?_, ?_⟩
    · rw [HO2.out]
    · rw [HO2.out]; exact HFine.out
    · rw [HO2.out]; exact hR2.keep o9 (fun e => hne.out e.symm) (fun e => hnh.out e.symm)
    · exact O2.out.trans o9 (fun i hi e => by omega)
  · have he' : (r2.err == 0) = false := by simpa using he
    have hO := HO.out
    rw [if_pos he] at hO
    have HO2 := hide hO
    clear hO HO hfull hok hB2 hF
    go_wp2_with (refine wpList_store_blk rfl 47 _ _ rfl w.heap.size 0 47 zeroR.cells zeroR.cells (by rfl) (by rfl) B2.out (by omega) (by rw [RefD.cells_len zeroR_fine]; exact isRef) (RefD.one _) ?_; intro w9 o9 z9 b9; simp only [Act.put])
    rw [lay_all _ _ rfl] at b9
    refine bodyPost_ret (results_cell_blk rfl _ _ w.heap.size 47 _ _ (by rfl) b9 HU.out rfl (by rw [RefD.cells_len zeroR_fine]; exact isRef)) rfl ⟨?_, ?_, ?_, ?_⟩
    · rw [HO2.out]
    · rw [HO2.out]; exact zeroR_fine
    · rw [HO2.out]; exact hR2.keep o9 (fun e => hne.out e.symm) (fun e => hnh.out e.symm)
    · exact O2.out.trans o9 (fun i hi e => by omega)
theorem ref_back (d : RefD) (hf : d.Fine) (rest : List Int) : Rd.ref ⟨d.bytes ++ rest, 0⟩ = (d, ⟨rest, 0⟩) := by
  have e : d.bytes ++ rest = d.id ++ (dig d.at_.toNat 4 ++ rest) := by rw [RefD.bytes, List.append_assoc]
  have h1 : Rd.raw ⟨d.bytes ++ rest, 0⟩ 32 = (d.id, ⟨dig d.at_.toNat 4 ++ rest, 0⟩) := by
    rw [e]
    have := raw_append d.id (dig d.at_.toNat 4 ++ rest)
    rw [hf.len] at this
    exact this
  have hlt : d.at_.toNat < 256 ^ 4 := by
    have h0 := hf.at0
    have h1 := hf.at1
    have e4 : (256 : Nat) ^ 4 = 4294967296 := by decide
    rw [e4]; omega
  have h2 : Rd.fixed ⟨dig d.at_.toNat 4 ++ rest, 0⟩ 4 = (d.at_.toNat, ⟨rest, 0⟩) := by
    rw [fixed_append _ _ 4 (by rw [dig_length]; rfl) (by decide), num_dig, Nat.mod_eq_of_lt hlt]
  rw [ref_eq _ _ _ _ _ h1 h2, if_neg (by simp)]
  obtain ⟨x, n⟩ := d
  have h0 := hf.at0
  simp only at h0 ⊢
  rw [Int.toNat_of_nonneg h0]
theorem out_back (d : OutD) (rest : List Int) (h0 : -9223372036854775808 ≤ d.value) (h1 : d.value ≤ 9223372036854775807) (hl : d.lock.length ≤ 2000) : Rd.out ⟨d.bytes ++ rest, 0⟩ = (d, ⟨rest, 0⟩) := by
  have e : d.bytes ++ rest = dig (u64 d.value).toNat 8 ++ (txt d.lock ++ rest) := by rw [OutD.bytes, List.append_assoc]
  have k1 : Rd.fixed ⟨d.bytes ++ rest, 0⟩ 8 = ((u64 d.value).toNat, ⟨txt d.lock ++ rest, 0⟩) := by
    rw [e, fixed_append _ _ 8 (by rw [dig8]; rfl) (by decide), num_dig8]
  have k2 : Rd.text ⟨txt d.lock ++ rest, 0⟩ 2000 = (d.lock, ⟨rest, 0⟩) := text_app _ _ _ (by omega) (by decide)
  rw [out_eq _ _ _ _ _ k1 k2, if_neg (by simp)]
  have hu : ((u64 d.value).toNat : Int) = u64 d.value := by unfold u64; omega
  rw [hu, i64_u64 _ h0 h1]
/-- What the document's loop has laid down behind j rounds. -/
def partR (X : List Int) (j : Nat) : RefD := ⟨X.take j ++ List.replicate (32 - j) 0, 0⟩
theorem partR_zero (X : List Int) : partR X 0 = zeroR := by simp [partR, zeroR]
theorem partR_len (X : List Int) (j : Nat) (hX : X.length = 32) (hj : j ≤ 32) : (partR X j).id.length = 32 := by simp [partR, hX]; omega
theorem partR_get (X : List Int) (j : Nat) (hX : X.length = 32) (hj : j < 32) : (partR X j).cells[j]? = some (.int .u8 0) := by
  rw [RefD.cells, List.getElem?_append_left (by rw [List.length_map, partR_len X j hX (by omega)]; exact hj), List.getElem?_map]
  simp only [partR]
  rw [List.getElem?_append_right (by rw [List.length_take]; omega), List.getElem?_replicate, if_pos (by rw [List.length_take]; omega)]
  rfl
theorem partR_set (X : List Int) (j : Nat) (x : Int) (hX : X.length = 32) (hj : j < 32) (hx : X[j]? = some x) : (partR X j).cells.set j (.int .u8 x) = (partR X (j + 1)).cells := by
  rw [RefD.cells, RefD.cells, List.set_append_left _ _ (by rw [List.length_map, partR_len X j hX (by omega)]; exact hj), ← List.map_set]
  congr 2
  simp only [partR]
  have e : 32 - j = (32 - (j + 1)) + 1 := by omega
  have hl : (X.take j).length = j := by rw [List.length_take]; omega
  rw [List.set_append_right _ _ (by omega), hl, Nat.sub_self, e, List.replicate_succ, List.set_cons_zero, List.take_add_one, hx]
  simp
theorem partR_full (X : List Int) (hX : X.length = 32) : (partR X 32).id = X := by simp [partR, List.take_of_length_le, hX]
set_option maxHeartbeats 4000000 in
set_option maxRecDepth 100000 in
theorem refRefRead_any (w : World) (g h : Nat) (r : Rd) (hR : RdAt 55 w g h r) :
    Calls Try.prog 36 #[.pointer (some ⟨g, 0, none⟩)] w (RefPost 55 w g h r.ref.2 r.ref.1) := by
  have hgl := hR.lt.1
  have hhl := hR.lt.2
  have hne := hide (show ¬ w.heap.size = g by omega)
  have hnh := hide (show ¬ w.heap.size = h by omega)
  have hne1 := hide (show ¬ w.heap.size + 1 = g by omega)
  have hnh1 := hide (show ¬ w.heap.size + 1 = h by omega)
  obtain ⟨wa, hwa⟩ : ∃ wa, wa = (w.alloc (.cells zeroR.cells.toArray 47)).alloc (.cells zeroR.cells.toArray 47) := ⟨_, rfl⟩
  have hR0 := hide (show RdAt 55 wa g h r by rw [hwa]; exact hR.below (below_alloc (below_alloc (Below.refl _ w) _) _))
  have BZ := hide (show Blk wa w.heap.size 47 zeroR.cells by rw [hwa]; exact (Blk.new w 47 zeroR.cells).alloc _)
  have BY := hide (show Blk wa (w.heap.size + 1) 47 zeroR.cells by rw [hwa]; exact Blk.new1 w _ 47 zeroR.cells)
  have O0 := hide (show Only (fun i => i = g) w wa by rw [hwa]; exact (Only.alloc0 (F := fun i => i = g) w _).alloc _)
  have hby := hide (show Byt r.rest by obtain ⟨_, _, _, _, hB2, _⟩ := hR; exact hB2.2.1)
  clear hR
  go_enter Try.func36, Try.ntmps36
  go_wp2_with (first
    | (refine wpList_alloc_agg rfl 47 rfl zeroR.cells zeroRef ?_; simp only [Act.put, List.setIfInBounds_toArray, List.set_cons_zero, List.set_cons_succ, World.size_alloc])
    | (rw [← hwa]; refine wpList_store_blk rfl 47 _ _ rfl (w.heap.size + 1) 0 47 zeroR.cells zeroR.cells (by rfl) (by rfl) BY.out (by omega) (by rw [RefD.cells_len zeroR_fine]; exact isRef) (RefD.one _) ?_; intro wb ob zb bb; simp only [Act.put]))
  rw [lay_all _ _ rfl] at bb
  have hsz : wa.heap.size = w.heap.size + 2 := by rw [hwa]; simp [World.size_alloc]
  have hRb := hR0.out.keep ob (fun e => hne1.out e.symm) (fun e => hnh1.out e.symm)
  have BZb := hide (ob.blk BZ.out (by omega))
  have Ob := hide (O0.out.trans ob (fun i hi e => by omega))
  clear hwa hR0 BZ BY O0 ob
  refine (refraw_any _ g h _ 32 hRb).mono ?_
  rintro e w1 ⟨A1, n1, c1, rfl, hB1, hc1, hf1, hR1, o1⟩
  have hrb := hide (raw_byt r 32 hby.out)
  obtain ⟨X, r1, h1⟩ : ∃ X r1, r.raw 32 = (X, r1) := ⟨_, _, rfl⟩
  have hfull := raw_full r 32 (by decide)
  rw [h1] at hR1 hB1 hrb hfull
  simp only at hR1 hB1 hrb hfull
  have B1 := hide (o1.blk BZb.out hne.out)
  have Y1 := hide (o1.blk bb hne1.out)
  have O1 := hide (Ob.out.trans o1 (fun _ _ h => h))
  have hf1b := hide (show ∀ ad, A1 = some ad → w.heap.size + 1 < ad.block from fun ad e => by have h1 := hf1 ad e; omega)
  have hf1c := hide (show ∀ ad, A1 = some ad → ad.block ≠ g from fun ad e => by have h1 := hf1 ad e; omega)
  clear BZb Ob o1 hRb hf1 bb
  go_wp2_with fail
  refine (reffixedof_any _ g h _ 4 hR1).mono ?_
  rintro e w2 ⟨rfl, hR2, o2⟩
  have hF := fixed_u32 r1 (by obtain ⟨_, _, _, _, hB2, _⟩ := hR1; exact hB2.2.1)
  have hok := fixed_ok r1 4
  obtain ⟨F, r2, h2⟩ : ∃ F r2, r1.fixed 4 = (F, r2) := ⟨_, _, rfl⟩
  have HO := hide (ref_eq r X r1 F r2 h1 h2)
  rw [h2] at hR2 hF hok ⊢
  simp only at hR2 hF hok ⊢
  have B2 := hide (o2.blk B1.out hne.out)
  have Y2 := hide (o2.blk Y1.out hne1.out)
  have O2 := hide (O1.out.trans o2 (fun _ _ h => h))
  have HB2 := hide (hB1.keep o2 (fun _ ad e hf => hf1c.out ad e hf))
  have HR2 := hide hR2
  have e1 : w2.cell? ⟨g, 1, none⟩ = some (.int .i64 r2.err) := by obtain ⟨_, _, _, hb, _⟩ := hR2; exact hb.c1
  clear B1 Y1 O1 o2 hR1 hB1 h1 h2 hR2
  have hconv : IntKind.u32.wrap (F : Int) = (F : Int) := by rw [IntKind.wrap_u32]; omega
  have HF := hide hF
  have HU := hide Try.underlying47
  by_cases he : r2.err = 0
  · have hO := HO.out
    rw [if_neg (fun h => h he)] at hO
    have HO2 := hide hO
    have hX := hfull (hok he)
    have hX32 : X.length = 32 := by rw [hX]; rfl
    have hn1 : n1 = 32 := by rw [← HB2.out.1]; exact hX32
    subst hn1
    obtain ⟨b, off, hA, hcell⟩ := HB2.out.2.2 (by decide)
    subst hA
    have HC := hide hcell
    have HX := hide hX32
    have HFine := hide (show RefD.Fine ⟨X, (F : Int)⟩ from ⟨hX32, hrb.out, by show (0 : Int) ≤ (F : Int); omega, by show (F : Int) < 4294967296; omega⟩)
    clear hO HO hfull hok hX hX32 hF hcell
    go_wp2_with fail
    go_loopw [6, 18, 28] (fun _ i _ wr => ∃ j : Nat, j ≤ 32 ∧ i = .int .i64 j ∧ Blk wr (w.heap.size + 1) 47 (partR X j).cells ∧ Only (fun i => i = w.heap.size + 1) w2 wr) (fun _ i _ _ => 32 - (intOf i).toNat)
    case atStart => exact ⟨0, by omega, rfl, by rw [partR_zero]; exact Y2.out, Only.refl _ _⟩
    case round =>
      obtain ⟨j, hj, rfl, hY, ho⟩ := hrel
      by_cases hlt : j < 32
      · obtain ⟨x, hx⟩ : ∃ x, X[j]? = some x := ⟨_, List.getElem?_eq_getElem (by rw [HX.out]; exact hlt)⟩
        have c0 : wr.cell? ⟨b, off + j, none⟩ = some (.int .u8 x) := (World.cell?_of_block (w := w2) (ho.block b (World.block_lt_of_cell? w2 _ (HC.out j x hx)) (by have := hf1b.out _ rfl; simp only at this; omega))).trans (HC.out j x hx)
        have c1 : wr.cell? ⟨w.heap.size + 1, j, none⟩ = some (.int .u8 0) := by rw [hY.cell]; exact partR_get X j HX.out hlt
        have f1 := hY.frozen j
        have hY2 := hide (hY.set_ j (.int .u8 x))
        rw [partR_set X j x HX.out hlt hx] at hY2
        have HO3 := hide (ho.trans (Only.cell1 wr (w.heap.size + 1) j (.int .u8 x)) (fun _ _ h => h))
        have i0 : (0 : Int) ≤ (j : Int) := by omega
        have i1 : (j : Int) < 32 := by omega
        clear hY ho hx
        go_wp2_with fail
        exact ⟨⟨j + 1, by omega, by simp, hY2.out, HO3.out⟩, by simp [intOf]; omega⟩
      · obtain rfl : j = 32 := by omega
        have hYc : (partR X 32).cells = RefD.cells ⟨X, 0⟩ := by rw [RefD.cells, partR_full X HX.out]; rfl
        rw [hYc] at hY
        have HY := hide hY
        have HO3 := hide ho
        have f32 := hY.frozen 32
        have c32 := RefD.c32 (r := ⟨X, 0⟩) ⟨HX.out, hrb.out, by show (0 : Int) ≤ 0; decide, by show (0 : Int) < 4294967296; decide⟩ hY
        have Bz := hide (ho.blk B2.out (by omega))
        clear hY ho
        have hset := hide (show (RefD.cells ⟨X, 0⟩).set 32 (.int .u32 (F : Int)) = RefD.cells ⟨X, (F : Int)⟩ from by
          rw [RefD.cells, RefD.cells, List.set_append_right _ _ (by rw [List.length_map, HX.out]; exact Nat.le_refl _), List.length_map, HX.out]; rfl)
        have hY3 := hide (HY.out.set_ 32 (.int .u32 (F : Int)))
        rw [hset.out] at hY3
        have Bz3 := hide (Bz.out.far (p := ⟨w.heap.size + 1, 32, none⟩) (by simp) (.int .u32 (F : Int)))
        have HO4 := hide (HO3.out.trans (Only.cell1 wr (w.heap.size + 1) 32 (.int .u32 (F : Int))) (fun _ _ h => h))
        go_wp2_with (first
          | (refine wpList_load_blk rfl 47 _ rfl (w.heap.size + 1) 0 47 (RefD.cells ⟨X, (F : Int)⟩) (RefD.cells ⟨X, (F : Int)⟩) _ (by rfl) hY3.out (fun i v hv => by rw [Nat.zero_add]; exact hv) HU.out rfl (by rw [RefD.cells_len HFine.out]; exact isRef) ?_; simp only [Act.put, List.setIfInBounds_toArray, List.set_cons_zero, List.set_cons_succ])
          | (refine wpList_store_blk rfl 47 _ _ rfl w.heap.size 0 47 zeroR.cells (RefD.cells ⟨X, (F : Int)⟩) (by rfl) (by rfl) Bz3.out (by rw [RefD.cells_len HFine.out, RefD.cells_len zeroR_fine]; exact Nat.le_refl _) (by rw [RefD.cells_len HFine.out]; exact isRef) (RefD.one _) ?_; intro w9 o9 z9 b9; simp only [Act.put]))
        rw [lay_all _ _ (by rw [RefD.cells_len HFine.out, RefD.cells_len zeroR_fine])] at b9
        refine bodyPost_ret (results_cell_blk rfl _ _ w.heap.size 47 _ _ (by rfl) b9 HU.out rfl (by rw [RefD.cells_len HFine.out]; exact isRef)) rfl ⟨?_, ?_, ?_, ?_⟩
        · rw [HO2.out]
        · rw [HO2.out]; exact HFine.out
        · rw [HO2.out]; exact (HR2.out.keep HO4.out (fun e => hne1.out e.symm) (fun e => hnh1.out e.symm)).keep o9 (fun e => hne.out e.symm) (fun e => hnh.out e.symm)
        · exact (O2.out.trans HO4.out (fun i hi e => by omega)).trans o9 (fun i hi e => by omega)
  · have he' : (r2.err == 0) = false := by simpa using he
    have hO := HO.out
    rw [if_pos he] at hO
    have HO2 := hide hO
    clear hO HO hfull hok hF
    go_wp2_with (first
      | (refine wpList_load_blk rfl 47 _ rfl (w.heap.size + 1) 0 47 zeroR.cells zeroR.cells _ (by rfl) Y2.out (fun i v hv => by rw [Nat.zero_add]; exact hv) HU.out rfl (by rw [RefD.cells_len zeroR_fine]; exact isRef) ?_; simp only [Act.put, List.setIfInBounds_toArray, List.set_cons_zero, List.set_cons_succ])
      | (refine wpList_store_blk rfl 47 _ _ rfl w.heap.size 0 47 zeroR.cells zeroR.cells (by rfl) (by rfl) B2.out (by omega) (by rw [RefD.cells_len zeroR_fine]; exact isRef) (RefD.one _) ?_; intro w9 o9 z9 b9; simp only [Act.put]))
    rw [lay_all _ _ rfl] at b9
    refine bodyPost_ret (results_cell_blk rfl _ _ w.heap.size 47 _ _ (by rfl) b9 HU.out rfl (by rw [RefD.cells_len zeroR_fine]; exact isRef)) rfl ⟨?_, ?_, ?_, ?_⟩
    · rw [HO2.out]
    · rw [HO2.out]; exact zeroR_fine
    · rw [HO2.out]; exact HR2.out.keep o9 (fun e => hne.out e.symm) (fun e => hnh.out e.symm)
    · exact O2.out.trans o9 (fun i hi e => by omega)
theorem scan_new (w0 w2 : World) (A : Option Addr) (n c : Nat) (bs : List Int) (hB : Bys w0 A n bs) (hc : n ≤ c) (hn : n ≤ 1000000000) (hb : Below w0.heap.size w0 w2) :
    ∃ k, RdAt 55 (w2.alloc (.cells #[.slice A n c, .int .i64 0] 55)) w2.heap.size k ⟨bs, 0⟩ ∧ (k < w0.heap.size ∨ k = w2.heap.size) := by
  have bq := Blk.new w2 55 [.slice A n c, .int .i64 0]
  have hB2 := (hB.below hb).alloc (.cells #[.slice A n c, .int .i64 0] 55)
  have hs := hb.size
  by_cases h0 : 0 < n
  · obtain ⟨b, off, rfl, _⟩ := hB.2.2 h0
    have hlt := hB.lt h0 _ rfl
    simp only at hlt
    exact ⟨b, ⟨_, n, c, bq, hB2, hc, fun _ => ⟨fun ad e => by injection e with e; rw [← e], by omega⟩, by simp; omega, hn⟩, .inl hlt⟩
  · exact ⟨w2.heap.size, ⟨_, n, c, bq, hB2, hc, fun h => absurd h h0, by simp, hn⟩, .inr rfl⟩
end Go.Proofs.Ytfloclamdpageaa
