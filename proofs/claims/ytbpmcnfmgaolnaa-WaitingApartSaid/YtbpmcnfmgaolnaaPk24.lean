import Derived.Test.YtbpmcnfmgaolnaaPk20
import Derived.Test.YtbpmcnfmgaolnaaPk18
/-
  Waiting: a ring of eight blocks, in memory and plain.
-/
namespace Go.Proofs.Ytbpmcnfmgaolnaa
open Go.RowKit

/-- It reads so, whatever turns in those blocks of memory. -/
def KeepB (w : World) (b : BlkV) (F : Nat → Prop) : Prop := ∀ w', Only F w w' → b.Fine w'
theorem KeepB.fine {w : World} {b : BlkV} {F : Nat → Prop} (h : KeepB w b F) : b.Fine w := h w (Only.refl _ _)
theorem KeepB.step {w w' : World} {b : BlkV} {F F' : Nat → Prop} (h : KeepB w b F) (ho : Only F w w') (hF : ∀ i, i < w.heap.size → F' i → F i) : KeepB w' b F' := fun w'' h2 => h w'' (ho.trans h2 hF)
theorem KeepB.under {w w' : World} {b : BlkV} {F : Nat → Prop} (h : KeepB w b F) (hb : Below w.heap.size w w') : KeepB w' b F := h.step (Only.of_below hb F) fun _ _ h => h
theorem KeepB.mono {w : World} {b : BlkV} {F G : Nat → Prop} (h : KeepB w b F) (hG : ∀ i, i < w.heap.size → G i → F i) : KeepB w b G := h.step (Only.refl _ _) hG
theorem KeepB.zero (w : World) (F : Nat → Prop) : KeepB w zeroB F := fun w' _ => zeroB_fine w'
theorem KeepB.of_fine {w : World} {b : BlkV} (h : b.Fine w) : KeepB w b (fun _ => False) := fun _ ho => h.below (ho.below (Nat.le_refl _) fun _ _ h => h)
/-- What may be kept: it is read back whole. -/
structure BlkV.Good (b : BlkV) : Prop where
  small : b.Small
  ok : b.d.Ok
  len : b.d.bytes.length ≤ 100000
theorem zeroB_good : zeroB.Good := ⟨zeroB_small, ⟨zeroH_fine, by decide, fun t ht => by cases ht⟩, by decide +kernel⟩
/-! ### The ring in memory -/
def ringCells (its : List BlkV) (f m : Nat) : List Value := its.flatMap BlkV.cells ++ [.int .i64 f, .int .i64 m]
theorem items_get : ∀ (its : List BlkV), (∀ b ∈ its, b.head.Fine) → ∀ (k : Nat) (b : BlkV), its[k]? = some b → ∀ j, j < 69 → (its.flatMap BlkV.cells)[k * 69 + j]? = b.cells[j]?
  | [], _, k, b, hk, j, hj => by simp at hk
  | a :: l, h, k, b, hk, j, hj => by
    have ha := BlkV.cells_len (h a (by simp))
    rw [List.flatMap_cons]
    rcases k with _ | k
    · obtain rfl : a = b := by simpa using hk
      rw [List.getElem?_append_left (by omega), show 0 * 69 + j = j by omega]
    · rw [List.getElem?_append_right (by omega), ha, show (k + 1) * 69 + j - 69 = k * 69 + j by omega]
      exact items_get l (fun x hx => h x (by simp [hx])) k b (by simpa using hk) j hj
theorem items_len : ∀ (its : List BlkV), (∀ b ∈ its, b.head.Fine) → (its.flatMap BlkV.cells).length = its.length * 69
  | [], _ => rfl
  | a :: l, h => by rw [List.flatMap_cons, List.length_append, BlkV.cells_len (h a (by simp)), items_len l (fun x hx => h x (by simp [hx])), List.length_cons]; omega
theorem items_lay : ∀ (its : List BlkV), (∀ b ∈ its, b.head.Fine) → ∀ (k : Nat), k < its.length → ∀ (x : BlkV), x.head.Fine → ∀ (tl : List Value), lay (its.flatMap BlkV.cells ++ tl) (k * 69) x.cells = (its.set k x).flatMap BlkV.cells ++ tl := by
  intro its h k hk x hx tl
  have hl := items_len its h
  have hkl : k * 69 + 69 ≤ its.length * 69 := by omega
  have hxl := BlkV.cells_len hx
  have hs : ∀ b ∈ its.set k x, b.head.Fine := fun b hb => by
    rcases List.mem_or_eq_of_mem_set hb with h1 | h1
    · exact h b h1
    · rw [h1]; exact hx
  have hsl := items_len (its.set k x) hs
  rw [List.length_set] at hsl
  apply List.ext_getElem?
  intro j
  rw [lay_get _ _ _ _ (by rw [List.length_append, hl, hxl]; omega), hxl]
  by_cases hj : j < its.length * 69
  · rw [List.getElem?_append_left (by omega), List.getElem?_append_left (by omega)]
    have hq : j / 69 < its.length := by omega
    have e1 := items_get its h (j / 69) its[j / 69] (List.getElem?_eq_getElem hq) (j % 69) (Nat.mod_lt _ (by decide))
    have e2 := items_get (its.set k x) hs (j / 69) ((its.set k x)[j / 69]'(by rw [List.length_set]; exact hq)) (List.getElem?_eq_getElem _) (j % 69) (Nat.mod_lt _ (by decide))
    rw [show j / 69 * 69 + j % 69 = j by omega] at e1 e2
    rw [e2, e1, List.getElem_set]
    by_cases hkj : k = j / 69
    · rw [if_pos hkj, if_pos (by omega), show j - k * 69 = j % 69 by omega]
    · rw [if_neg hkj, if_neg (by omega)]
  · rw [if_neg (by omega), List.getElem?_append_right (by omega), List.getElem?_append_right (by omega), hl, hsl]
/-- A ring of blocks at the beginning of a block of memory; what else may turn. -/
structure RingAt (w : World) (g : Nat) (P : Nat → Prop) (its : List BlkV) (f m : Nat) : Prop where
  blk : Blk w g 107 (ringCells its f m)
  len : its.length = 8
  fl : f < 8
  ml : m ≤ 8
  keep : ∀ b ∈ its, KeepB w b (fun i => i = g ∨ P i)
  good : ∀ b ∈ its, b.Good
namespace RingAt
variable {w w' : World} {g : Nat} {P Q : Nat → Prop} {its : List BlkV} {f m : Nat}
theorem heads (h : RingAt w g P its f m) : ∀ b ∈ its, b.head.Fine := fun b hb => (h.keep b hb).fine.head
theorem under (h : RingAt w g P its f m) (hb : Below w.heap.size w w') : RingAt w' g P its f m := ⟨h.blk.under hb, h.len, h.fl, h.ml, fun b k => (h.keep b k).under hb, h.good⟩
theorem drew (h : RingAt w g P its f m) : RingAt w.drew g P its f m := h.under (Below.refl _ _).drew
/-- What turns that may. -/
theorem only (h : RingAt w g P its f m) {F : Nat → Prop} (ho : Only F w w') (hF : ∀ i, i < w.heap.size → F i → P i) (hg : ¬ F g) : RingAt w' g P its f m :=
  ⟨ho.blk h.blk hg, h.len, h.fl, h.ml, fun b k => (h.keep b k).step (ho.mono fun i hi hf => .inr (hF i hi hf)) (fun _ _ h => h), h.good⟩
theorem mono (h : RingAt w g P its f m) (hQ : ∀ i, i < w.heap.size → Q i → P i) : RingAt w g Q its f m :=
  ⟨h.blk, h.len, h.fl, h.ml, fun b k => (h.keep b k).mono fun i hi hf => hf.imp id (hQ i hi), h.good⟩
theorem item (h : RingAt w g P its f m) {k : Nat} {b : BlkV} (hk : its[k]? = some b) : w.rangeAt g (k * 69) b.cells := h.blk.range _ _ fun j v hv => by
  have hb := h.heads b (List.mem_of_getElem? hk)
  have hj : j < 69 := by have := (List.getElem?_eq_some_iff.1 hv).1; rw [BlkV.cells_len hb] at this; exact this
  have hkl := (List.getElem?_eq_some_iff.1 hk).1
  rw [ringCells, List.getElem?_append_left (by rw [items_len its h.heads]; omega), items_get its h.heads k b hk j hj, hv]
theorem first (h : RingAt w g P its f m) : w.cell? ⟨g, 552, none⟩ = some (.int .i64 f) := by
  rw [h.blk.cell, ringCells, List.getElem?_append_right (by rw [items_len its h.heads, h.len]; decide), items_len its h.heads, h.len]; rfl
theorem many (h : RingAt w g P its f m) : w.cell? ⟨g, 553, none⟩ = some (.int .i64 m) := by
  rw [h.blk.cell, ringCells, List.getElem?_append_right (by rw [items_len its h.heads, h.len]; decide), items_len its h.heads, h.len]; rfl
theorem cells_len (h : RingAt w g P its f m) : (ringCells its f m).length = 554 := by rw [ringCells, List.length_append, items_len its h.heads, h.len]; rfl
end RingAt
theorem ring_set_first {its : List BlkV} (hl : its.length = 8) (hf : ∀ b ∈ its, b.head.Fine) (f m k : Nat) : (ringCells its f m).set 552 (.int .i64 k) = ringCells its k m := by
  rw [ringCells, List.set_append_right _ _ (by rw [items_len its hf, hl]; decide), items_len its hf, hl]; rfl
theorem ring_set_many {its : List BlkV} (hl : its.length = 8) (hf : ∀ b ∈ its, b.head.Fine) (f m k : Nat) : (ringCells its f m).set 553 (.int .i64 k) = ringCells its f k := by
  rw [ringCells, List.set_append_right _ _ (by rw [items_len its hf, hl]; decide), items_len its hf, hl]; rfl
theorem RingAt.setFirst {w : World} {g : Nat} {P : Nat → Prop} {its : List BlkV} {f m : Nat} (h : RingAt w g P its f m) (k : Nat) (hk : k < 8) : RingAt (w.setCell ⟨g, 552, none⟩ (.int .i64 k)) g P its k m :=
  ⟨by have := h.blk.set_ 552 (.int .i64 k); rwa [ring_set_first h.len h.heads] at this, h.len, hk, h.ml, fun b hb => (h.keep b hb).step ((Only.cell1 w g 552 _).mono fun _ _ h => .inl h) (fun _ _ h => h), h.good⟩
theorem RingAt.setMany {w : World} {g : Nat} {P : Nat → Prop} {its : List BlkV} {f m : Nat} (h : RingAt w g P its f m) (k : Nat) (hk : k ≤ 8) : RingAt (w.setCell ⟨g, 553, none⟩ (.int .i64 k)) g P its f k :=
  ⟨by have := h.blk.set_ 553 (.int .i64 k); rwa [ring_set_many h.len h.heads] at this, h.len, h.fl, hk, fun b hb => (h.keep b hb).step ((Only.cell1 w g 553 _).mono fun _ _ h => .inl h) (fun _ _ h => h), h.good⟩
/-! ### The ring, plain -/
/-- The blocks that are in it, in their order. -/
def inRing (its : List BlkV) (f m : Nat) : List BlkV := (List.range m).filterMap fun i => its[(f + i) % 8]?
theorem range_get (m i : Nat) (h : i < m) : (List.range m)[i]? = some i := by simp [h]
theorem inRing_eq {its : List BlkV} (hl : its.length = 8) (f m : Nat) : inRing its f m = (List.range m).map fun i => its.getD ((f + i) % 8) zeroB := by
  unfold inRing
  rw [← List.filterMap_eq_map]
  congr 1
  funext i
  have : (f + i) % 8 < its.length := by omega
  simp [List.getD_eq_getElem?_getD, List.getElem?_eq_getElem this]
theorem inRing_len {its : List BlkV} (hl : its.length = 8) (f m : Nat) : (inRing its f m).length = m := by rw [inRing_eq hl]; simp
theorem inRing_get {its : List BlkV} (hl : its.length = 8) (f m i : Nat) (hi : i < m) : (inRing its f m)[i]? = its[(f + i) % 8]? := by
  have : (f + i) % 8 < its.length := by omega
  rw [inRing_eq hl, List.getElem?_map, range_get m i hi, Option.map_some, List.getD_eq_getElem?_getD, List.getElem?_eq_getElem this]; rfl
theorem inRing_mem {its : List BlkV} {f m : Nat} {b : BlkV} (h : b ∈ inRing its f m) : b ∈ its := by
  unfold inRing at h
  obtain ⟨i, _, hi⟩ := List.mem_filterMap.1 h
  exact List.mem_of_getElem? hi
/-- One more, where there is room. -/
theorem inRing_more {its : List BlkV} (hl : its.length = 8) (f m : Nat) (hm : m < 8) (x : BlkV) : inRing (its.set ((f + m) % 8) x) f (m + 1) = inRing its f m ++ [x] := by
  have hk : (f + m) % 8 < its.length := by omega
  rw [inRing_eq (by rw [List.length_set]; exact hl), inRing_eq hl, List.range_succ, List.map_append]
  congr 1
  · apply List.map_congr_left
    intro i hi
    have hi' := List.mem_range.1 hi
    have hne : (f + m) % 8 ≠ (f + i) % 8 := by omega
    rw [List.getD_eq_getElem?_getD, List.getD_eq_getElem?_getD, List.getElem?_set_ne hne]
  · simp [List.getD_eq_getElem?_getD, List.getElem?_set_self hk]
/-- The first one is let go. -/
theorem inRing_less {its : List BlkV} (hl : its.length = 8) (f m : Nat) : inRing its ((f + 1) % 8) m = (inRing its f (m + 1)).tail := by
  rw [inRing_eq hl, inRing_eq hl, List.range_succ_eq_map, List.map_cons, List.tail_cons, List.map_map]
  apply List.map_congr_left
  intro i _
  show its.getD (((f + 1) % 8 + i) % 8) zeroB = its.getD ((f + (i + 1)) % 8) zeroB
  rw [show ((f + 1) % 8 + i) % 8 = (f + (i + 1)) % 8 by omega]
end Go.Proofs.Ytbpmcnfmgaolnaa
/-
  Waiting: the ring's functions.
-/
namespace Go.Proofs.Ytbpmcnfmgaolnaa
open Go.RowKit

theorem emod8 (f i : Nat) : ((f : Int) + (i : Int)) % 8 = (((f + i) % 8 : Nat) : Int) := by omega
attribute [local go_sem ↓] loadBlk_fold loadHead_fold
set_option maxHeartbeats 1000000 in
set_option maxRecDepth 100000 in
theorem place_any (w : World) (g : Nat) (P : Nat → Prop) (its : List BlkV) (f m i : Nat) (hR : RingAt w g P its f m) (hi : i ≤ 8) :
    Calls Try.prog 112 #[.pointer (some ⟨g, 0, none⟩), .int .i64 (i : Int)] w fun e w' => e = .returned (.int .i64 (((f + i) % 8 : Nat) : Int)) ∧ w' = w := by
  have c1 := hR.first
  have hf := hR.fl
  have hf0 : (f : Int) < 8 := by omega
  have hi0 : (i : Int) ≤ 8 := by omega
  clear hR
  go_enter Try.func112, Try.ntmps112
  go_wp2_with fail
  go_ret
  exact ⟨by rw [emod8]; rfl, rfl⟩
set_option maxHeartbeats 2000000 in
set_option maxRecDepth 100000 in
theorem at_any (w : World) (g : Nat) (P : Nat → Prop) (its : List BlkV) (f m i : Nat) (b : BlkV) (hR : RingAt w g P its f m) (hi : i < 8) (hb : its[(f + i) % 8]? = some b) :
    Calls Try.prog 70 #[.pointer (some ⟨g, 0, none⟩), .int .i64 (i : Int)] w fun e w' => e = .returned (.agg b.cells.toArray) ∧ Below w.heap.size w w' := by
  have HF := hide (hR.heads b (List.mem_of_getElem? hb))
  obtain ⟨k, hk⟩ : ∃ k, k = (f + i) % 8 := ⟨_, rfl⟩
  have k0 : (0 : Int) ≤ (k : Int) := by omega
  have k1 : (k : Int) < 8 := by omega
  rw [← hk] at hb
  have HKK := hide hk
  clear hk
  go_enter Try.func70, Try.ntmps70
  go_wp2_with (refine wpList_alloc_agg rfl 40 rfl zeroB.cells zeroBlk_info ?_; simp only [Act.put, List.setIfInBounds_toArray, List.set_cons_zero, List.set_cons_succ])
  obtain ⟨w1, hw1⟩ : ∃ z, z = w.alloc (.cells zeroB.cells.toArray 40) := ⟨_, rfl⟩
  obtain ⟨p, hp⟩ : ∃ z, z = w.heap.size := ⟨_, rfl⟩
  have K0 := hide (show Blk w1 p 40 zeroB.cells by rw [hw1, hp]; exact Blk.new w _ _)
  have B0 := hide (show Below p w w1 by rw [hw1, hp]; exact below_alloc (Below.refl _ _) _)
  have R0 := hide (show RingAt w1 g P its f m by rw [hw1]; exact hR.under (below_alloc (Below.refl _ _) _))
  have HI := hide (R0.out.item hb)
  have HG := hide (show ¬ g = p by rw [hp]; have := hR.blk.lt; omega)
  rw [← hw1, ← hp]
  have HP := hide hp
  clear hw1 hR hb hp
  refine wp_region_held_drew (S := fun w' => w'.rangeAt g (k * 69) b.cells ∧ Below p w w') (by kernel_rfl) (⟨range_under HI.out (Below.refl _ w1).drew, B0.out.drew⟩) (fun hSA0 => ?_)
  obtain ⟨w1d, hwA⟩ : ∃ x, x = w1.drew := ⟨_, rfl⟩
  have Rw1d := hide (show RingAt w1d g P its f m by rw [hwA]; exact R0.out.drew)
  have Kw1d := hide (show Blk w1d p 40 zeroB.cells by rw [hwA]; exact K0.out)
  rw [← hwA] at hSA0 ⊢
  clear hwA
  (refine wpAnyH_take (i := 0) (oi := ⟨some 5, .move (.tmp 0), 160, "waiting.go:20", #[], none⟩) (v := ?_) rfl (by kernel_rfl) (by kernel_rfl) (by kernel_rfl) (fun _ _ _ h => h) (Or.inl ⟨by rfl, fun w' hSw => ?_⟩) hSA0 ?_; rotate_left; focus (go_simp; try with_reducible rfl))
  simp only [Act.put, List.setIfInBounds_toArray, List.set_cons_zero, List.set_cons_succ]
  (refine wpAnyH_take (i := 1) (oi := ⟨some 6, .move (.tmp 0), 160, "waiting.go:20", #[], none⟩) (v := ?_) rfl (by kernel_rfl) (by kernel_rfl) (by kernel_rfl) (fun _ _ _ h => h) (Or.inl ⟨by rfl, fun w' hSw => ?_⟩) hSA0 ?_; rotate_left; focus (go_simp; try with_reducible rfl))
  simp only [Act.put, List.setIfInBounds_toArray, List.set_cons_zero, List.set_cons_succ]
  (refine wpAnyH_take (i := 2) (oi := ⟨some 7, .move (.tmp 1), 3, "waiting.go:20", #[], none⟩) (v := ?_) rfl (by kernel_rfl) (by kernel_rfl) (by kernel_rfl) (fun _ _ _ h => h) (Or.inl ⟨by rfl, fun w' hSw => ?_⟩) hSA0 ?_; rotate_left; focus (go_simp; try with_reducible rfl))
  simp only [Act.put, List.setIfInBounds_toArray, List.set_cons_zero, List.set_cons_succ]
  (refine wpAnyH_take (i := 4) (oi := ⟨some 9, .nilCheck (.tmp 5), 0, "waiting.go:20", #[⟨0, .data⟩], none⟩) (v := ?_) rfl (by kernel_rfl) (by kernel_rfl) (by kernel_rfl) (fun _ _ _ h => h) (Or.inl ⟨by rfl, fun w' hSw => ?_⟩) hSA0 ?_; rotate_left; focus (go_simp; try with_reducible rfl))
  simp only [Act.put, List.setIfInBounds_toArray, List.set_cons_zero, List.set_cons_succ]
  (refine wpAnyH_take (i := 5) (oi := ⟨some 10, .fieldAddr 105 (.tmp 9) 0, 0, "waiting.go:20", #[⟨4, .data⟩], none⟩) (v := ?_) rfl (by kernel_rfl) (by kernel_rfl) (by kernel_rfl) (fun _ _ _ h => h) (Or.inl ⟨by rfl, fun w' hSw => ?_⟩) hSA0 ?_; rotate_left; focus (go_simp; try with_reducible rfl))
  simp only [Act.put, List.setIfInBounds_toArray, List.set_cons_zero, List.set_cons_succ]
  refine wpAnyH_ready (rs := [3]) (by kernel_rfl) (by simp) ?_
  refine AllReadyH.cons rfl (fun K hK => ?_) AllReadyH.nil
  go_simp
  go_wp2_with (go_at_call 112; refine (place_any w1d g P its f m i Rw1d.out (by omega)).mono ?_; rintro e wz ⟨rfl, rfl⟩; rw [← HKK.out])
  refine hK.out _ _ (hSA0) (fun hSA1 => ?_)
  clear hK K
  (refine wpAnyH_take (i := 6) (oi := ⟨some 11, .indexAddr 103 (.tmp 10) (.tmp 8), 0, "waiting.go:20", #[⟨5, .data⟩, ⟨3, .data⟩], none⟩) (v := ?_) rfl (by kernel_rfl) (by kernel_rfl) (by kernel_rfl) (fun _ _ _ h => h) (Or.inl ⟨by rfl, fun w' hSw => ?_⟩) hSA1 ?_; rotate_left; focus (go_simp; try with_reducible rfl))
  simp only [Act.put, List.setIfInBounds_toArray, List.set_cons_zero, List.set_cons_succ]
  (refine wpAnyH_take (i := 7) (oi := ⟨some 12, .load 40 (.tmp 11), 40, "waiting.go:20", #[⟨6, .data⟩], none⟩) (v := ?_) rfl (by kernel_rfl) (by kernel_rfl) (by kernel_rfl) (fun _ _ _ h => h) (Or.inl ⟨by rfl, fun w' hSw => ?_⟩) hSA1 ?_; rotate_left; focus (have z1 := loadBlk_run w' g (k * 69) b hSw.1 HF.out; go_simp; try with_reducible rfl))
  simp only [Act.put, List.setIfInBounds_toArray, List.set_cons_zero, List.set_cons_succ]
  refine wpAnyH_ready (rs := [8]) (by kernel_rfl) (by simp) ?_
  refine AllReadyH.cons rfl (fun K hK => ?_) AllReadyH.nil
  refine step_store_blk rfl 40 _ _ rfl p 0 40 zeroB.cells b.cells (by rfl) (by rfl) Kw1d.out (by rw [BlkV.cells_len HF.out, BlkV.cells_len zeroH_fine]; decide) (by rw [BlkV.cells_len HF.out]; exact isBlk) (BlkV.one b) ?_
  intro w9 o9 z9 b9
  rw [lay_all _ _ (by rw [BlkV.cells_len HF.out, BlkV.cells_len zeroH_fine])] at b9
  simp only [Act.put]
  refine hK.out _ _ (⟨range_only hSA1.1 o9 HG.out, hSA1.2.trans (o9.below (by rw [HP.out]; exact hSA1.2.size) (fun i hi e => by have h9 : i = p := e; omega))⟩) (fun hSA2 => ?_)
  clear hK K
  refine wpAnyH_done (by kernel_rfl) ?_ _
  go_wp2_with fail
  refine bodyPost_ret (results_cell_blk rfl _ _ p 40 _ _ (by rfl) b9 Try.underlying40 rfl (by rw [isBlk, BlkV.cells_len HF.out])) rfl ⟨rfl, ?_⟩
  rw [← HP.out]
  exact hSA2.2
set_option maxHeartbeats 1000000 in
set_option maxRecDepth 100000 in
theorem WLen_any (w : World) (g : Nat) (P : Nat → Prop) (its : List BlkV) (f m : Nat) (hR : RingAt w g P its f m) :
    Calls Try.prog 23 #[.pointer (some ⟨g, 0, none⟩)] w fun e w' => e = .returned (.int .i64 (m : Int)) ∧ w' = w := by
  have c1 := hR.many
  clear hR
  go_enter Try.func23, Try.ntmps23
  go_wp2_with fail
  go_ret
  exact ⟨rfl, rfl⟩
def ring0 : List BlkV := List.replicate 8 zeroB
theorem ring0_at (w : World) (P : Nat → Prop) : RingAt (w.alloc (.cells (ringCells ring0 0 0).toArray 107)) w.heap.size P ring0 0 0 :=
  ⟨Blk.new w _ _, rfl, by decide, by decide, fun b hb => by rw [List.eq_of_mem_replicate hb]; exact KeepB.zero _ _, fun b hb => by rw [List.eq_of_mem_replicate hb]; exact zeroB_good⟩
def mkW (parts : Array (Nat × Value)) : Sem Value := Instr.build 107 parts
theorem mkW_fold (parts : Array (Nat × Value)) : Instr.build 107 parts = mkW parts := rfl
theorem mkW_zero (w : World) : (mkW #[]).run Try.prog w = .ok (.agg (ringCells ring0 0 0).toArray) w := by kernel_rfl
attribute [local go_sem ↓] mkW_fold
attribute [local go_sem] mkW_zero
set_option maxHeartbeats 1000000 in
set_option maxRecDepth 100000 in
theorem WNew_any (w : World) :
    Calls Try.prog 16 #[] w fun e w' => ∃ g : Nat, e = .returned (.pointer (some ⟨g, 0, none⟩)) ∧ w.heap.size ≤ g ∧ Below w.heap.size w w' ∧ ∀ P : Nat → Prop, RingAt w' g P ring0 0 0 := by
  go_enter Try.func16, Try.ntmps16
  go_wp2_with fail
  go_ret
  exact ⟨_, rfl, Nat.le_refl _, below_alloc (Below.refl _ _) _, fun P => ring0_at w P⟩
theorem RingAt.put {w w' : World} {g : Nat} {P : Nat → Prop} {its : List BlkV} {f m k : Nat} {x : BlkV} (h : RingAt w g P its f m) (hk : k < 8) (ho : Only (fun i => i = g) w w') (hb : Blk w' g 107 (lay (ringCells its f m) (k * 69) x.cells))
    (hx : KeepB w x (fun i => i = g ∨ P i)) (hs : x.Good) : RingAt w' g P (its.set k x) f m := by
  rw [ringCells, items_lay its h.heads k (by rw [h.len]; exact hk) x hx.fine.head] at hb
  refine ⟨hb, by rw [List.length_set]; exact h.len, h.fl, h.ml, fun b hb => ?_, fun b hb => ?_⟩
  · rcases List.mem_or_eq_of_mem_set hb with h1 | h1
    · exact (h.keep b h1).step (ho.mono fun _ _ h => .inl h) fun _ _ h => h
    · rw [h1]; exact hx.step (ho.mono fun _ _ h => .inl h) fun _ _ h => h
  · rcases List.mem_or_eq_of_mem_set hb with h1 | h1
    · exact h.good b h1
    · rw [h1]; exact hs
def PutPost (w : World) (g : Nat) (P : Nat → Prop) (L : List BlkV) (e : Ending) (w' : World) : Prop :=
  ∃ (its : List BlkV) (f m : Nat), e = .returned (.tuple #[]) ∧ RingAt w' g P its f m ∧ inRing its f m = L ∧ Only (fun i => i = g) w w'
set_option maxHeartbeats 400000 in
set_option maxRecDepth 100000 in
theorem put_any (w : World) (g : Nat) (P : Nat → Prop) (its : List BlkV) (f m : Nat) (x : BlkV) (hR : RingAt w g P its f m) (hx : KeepB w x (fun i => i = g ∨ P i)) (hs : x.Good) :
    Calls Try.prog 68 #[.pointer (some ⟨g, 0, none⟩), .agg x.cells.toArray] w (PutPost w g P ((if m = 8 then (inRing its f m).tail else inRing its f m) ++ [x])) := by
  have HS := hide hs
  have HXF := hide hx.fine.head
  have b1 : Below w.heap.size w (w.alloc (.cells x.cells.toArray 40)) := below_alloc (Below.refl _ _) _
  have R1 := hide (hR.under b1)
  have X1 := hide (hx.under b1)
  have K1 := hide (Blk.new w 40 x.cells)
  have HGP := hide (show ¬ g = w.heap.size by have := hR.blk.lt; omega)
  have B1 := hide b1
  have c0 := R1.out.first
  have c1 := R1.out.many
  have hm8 := R1.out.ml
  clear hR hx hs b1
  by_cases hm : m = 8
  subst hm
  have HML := hide (show (8 : Nat) = 8 from rfl)
  go_enter Try.func68, Try.ntmps68
  go_wp2_with fail
  refine (place_any (w.alloc (.cells x.cells.toArray 40)) g P its f 8 1 R1.out (by decide)).mono ?_
  rintro e wz ⟨rfl, rfl⟩
  obtain ⟨k, hk⟩ : ∃ k, k = (f + 1) % 8 := ⟨_, rfl⟩
  rw [← hk]
  have R2 := hide (R1.out.setFirst k (by omega))
  have f1 := R1.out.blk.frozen 552
  have c2 := R2.out.many
  have f2 := R2.out.blk.frozen 553
  have HIN := hide (show inRing its k 7 = (inRing its f 8).tail by rw [hk]; exact inRing_less R1.out.len f 7)
  clear hk
  go_wp2_with fail
  have R3 := hide (R2.out.setMany 7 (by decide))
  obtain ⟨w3, hw3⟩ : ∃ z, z = ((w.alloc (.cells x.cells.toArray 40)).setCell ⟨g, 552, none⟩ (.int .i64 (k : Int))).setCell ⟨g, 553, none⟩ (.int .i64 7) := ⟨_, rfl⟩
  have O3 := hide (show Only (fun i => i = g) w w3 by rw [hw3]; exact (((Only.refl (fun i => i = g) w).alloc (.cells x.cells.toArray 40)).setCell (p := ⟨g, 552, none⟩) (.inr rfl) _).setCell (p := ⟨g, 553, none⟩) (.inr rfl) _)
  have K3 := hide (show Blk w3 w.heap.size 40 x.cells by rw [hw3]; exact (K1.out.far (fun e => HGP.out e.symm) _).far (fun e => HGP.out e.symm) _)
  have X3 := hide (show KeepB w3 x (fun i => i = g ∨ P i) by rw [hw3]; exact (X1.out.step ((Only.cell1 _ g 552 _).mono fun _ _ h => .inl h) fun _ _ h => h).step ((Only.cell1 _ g 553 _).mono fun _ _ h => .inl h) fun _ _ h => h)
  obtain ⟨m3, hm3⟩ : ∃ m3 : Nat, m3 = 7 := ⟨_, rfl⟩
  have HM3 := hide (show m3 < 8 by omega)
  have R9 : RingAt (((w.alloc (.cells x.cells.toArray 40)).setCell ⟨g, 552, none⟩ (.int .i64 (k : Int))).setCell ⟨g, 553, none⟩ (.int .i64 7)) g P its k 7 := R3.out
  clear R3
  rw [← hw3, ← hm3] at R9
  have R3 := hide R9
  rw [← hm3] at HIN
  have HL := hide (show inRing its k m3 ++ [x] = (inRing its f 8).tail ++ [x] by rw [HIN.out])
  rw [← hw3]
  clear R9 hm3 hw3 R1 R2 c0 c1 c2 f1 f2 K1 X1
  rotate_left
  have hm1 : ¬ (m : Int) = 8 := by omega
  have HML := hide hm
  go_enter Try.func68, Try.ntmps68
  go_wp2_with fail
  obtain ⟨w3, hw3⟩ : ∃ z, z = w.alloc (.cells x.cells.toArray 40) := ⟨_, rfl⟩
  rw [← hw3] at R1 X1 K1 ⊢
  have O3 := hide (show Only (fun i => i = g) w w3 by rw [hw3]; exact (Only.refl (fun i => i = g) w).alloc _)
  have K3 := hide K1.out
  have X3 := hide X1.out
  obtain ⟨m3, hm3⟩ : ∃ m3 : Nat, m3 = m := ⟨_, rfl⟩
  obtain ⟨k, hk⟩ : ∃ k : Nat, k = f := ⟨_, rfl⟩
  have HM3 := hide (show m3 < 8 by omega)
  rw [← hm3, ← hk] at R1
  have R3 := hide R1.out
  have HL := hide (show inRing its k m3 ++ [x] = inRing its f m ++ [x] by rw [hm3, hk])
  clear hm3 hk hw3 R1 K1 X1 c0 c1
  all_goals (
    obtain ⟨q, hq⟩ : ∃ q, q = (k + m3) % 8 := ⟨_, rfl⟩
    have q0 : (0 : Int) ≤ (q : Int) := by omega
    have q1 : (q : Int) < 8 := by omega
    have HQ := hide hq
    clear hq
    refine wp_region_held_drew (S := fun w' => w'.cell? ⟨g, 553, none⟩ = some (.int .i64 (m3 : Int)) ∧ w'.rangeAt w.heap.size 0 x.cells) (by kernel_rfl) (⟨R3.out.many, K3.out.whole⟩) (fun hSA0 => ?_)
    obtain ⟨w3d, hwA⟩ : ∃ x, x = w3.drew := ⟨_, rfl⟩
    have Rw3d := hide (show RingAt w3d g P its k m3 by rw [hwA]; exact R3.out.drew)
    have Xw3d := hide (show KeepB w3d x (fun i => i = g ∨ P i) by rw [hwA]; exact X3.out.step (Only.refl _ _).drew fun _ _ h => h)
    have Ow3d := hide (show Only (fun i => i = g) w w3d by rw [hwA]; exact O3.out.drew)
    rw [← hwA] at hSA0 ⊢
    clear hwA
    (refine wpAnyH_take (i := 0) (oi := ⟨some 21, .move (.tmp 0), 160, "waiting.go:28", #[], none⟩) (v := ?_) rfl (by kernel_rfl) (by kernel_rfl) (by kernel_rfl) (fun _ _ _ h => h) (Or.inl ⟨by rfl, fun w' hSw => ?_⟩) hSA0 ?_; rotate_left; focus (go_simp; try with_reducible rfl))
    simp only [Act.put, List.setIfInBounds_toArray, List.set_cons_zero, List.set_cons_succ]
    (refine wpAnyH_take (i := 1) (oi := ⟨some 22, .move (.tmp 0), 160, "waiting.go:28", #[], none⟩) (v := ?_) rfl (by kernel_rfl) (by kernel_rfl) (by kernel_rfl) (fun _ _ _ h => h) (Or.inl ⟨by rfl, fun w' hSw => ?_⟩) hSA0 ?_; rotate_left; focus (go_simp; try with_reducible rfl))
    simp only [Act.put, List.setIfInBounds_toArray, List.set_cons_zero, List.set_cons_succ]
    (refine wpAnyH_take (i := 2) (oi := ⟨some 23, .move (.tmp 0), 160, "waiting.go:28", #[], none⟩) (v := ?_) rfl (by kernel_rfl) (by kernel_rfl) (by kernel_rfl) (fun _ _ _ h => h) (Or.inl ⟨by rfl, fun w' hSw => ?_⟩) hSA0 ?_; rotate_left; focus (go_simp; try with_reducible rfl))
    simp only [Act.put, List.setIfInBounds_toArray, List.set_cons_zero, List.set_cons_succ]
    (refine wpAnyH_take (i := 3) (oi := ⟨some 24, .nilCheck (.tmp 23), 0, "waiting.go:28", #[⟨2, .data⟩], none⟩) (v := ?_) rfl (by kernel_rfl) (by kernel_rfl) (by kernel_rfl) (fun _ _ _ h => h) (Or.inl ⟨by rfl, fun w' hSw => ?_⟩) hSA0 ?_; rotate_left; focus (go_simp; try with_reducible rfl))
    simp only [Act.put, List.setIfInBounds_toArray, List.set_cons_zero, List.set_cons_succ]
    (refine wpAnyH_take (i := 4) (oi := ⟨some 25, .fieldAddr 105 (.tmp 24) 2, 0, "waiting.go:28", #[⟨3, .data⟩], none⟩) (v := ?_) rfl (by kernel_rfl) (by kernel_rfl) (by kernel_rfl) (fun _ _ _ h => h) (Or.inl ⟨by rfl, fun w' hSw => ?_⟩) hSA0 ?_; rotate_left; focus (go_simp; try with_reducible rfl))
    simp only [Act.put, List.setIfInBounds_toArray, List.set_cons_zero, List.set_cons_succ]
    (refine wpAnyH_take (i := 5) (oi := ⟨some 26, .load 3 (.tmp 25), 3, "waiting.go:28", #[⟨4, .data⟩], none⟩) (v := ?_) rfl (by kernel_rfl) (by kernel_rfl) (by kernel_rfl) (fun _ _ _ h => h) (Or.inl ⟨by rfl, fun w' hSw => ?_⟩) hSA0 ?_; rotate_left; focus (have z1 := hSw.1; go_simp; try with_reducible rfl))
    simp only [Act.put, List.setIfInBounds_toArray, List.set_cons_zero, List.set_cons_succ]
    (refine wpAnyH_take (i := 7) (oi := ⟨some 28, .load 40 (.tmp 3), 40, "waiting.go:28", #[], none⟩) (v := ?_) rfl (by kernel_rfl) (by kernel_rfl) (by kernel_rfl) (fun _ _ _ h => h) (Or.inl ⟨by rfl, fun w' hSw => ?_⟩) hSA0 ?_; rotate_left; focus (have z1 := loadBlk_run w' w.heap.size 0 x hSw.2 HXF.out; go_simp; try with_reducible rfl))
    simp only [Act.put, List.setIfInBounds_toArray, List.set_cons_zero, List.set_cons_succ]
    (refine wpAnyH_take (i := 8) (oi := ⟨some 29, .nilCheck (.tmp 21), 0, "waiting.go:28", #[⟨0, .data⟩], none⟩) (v := ?_) rfl (by kernel_rfl) (by kernel_rfl) (by kernel_rfl) (fun _ _ _ h => h) (Or.inl ⟨by rfl, fun w' hSw => ?_⟩) hSA0 ?_; rotate_left; focus (go_simp; try with_reducible rfl))
    simp only [Act.put, List.setIfInBounds_toArray, List.set_cons_zero, List.set_cons_succ]
    (refine wpAnyH_take (i := 9) (oi := ⟨some 30, .fieldAddr 105 (.tmp 29) 0, 0, "waiting.go:28", #[⟨8, .data⟩], none⟩) (v := ?_) rfl (by kernel_rfl) (by kernel_rfl) (by kernel_rfl) (fun _ _ _ h => h) (Or.inl ⟨by rfl, fun w' hSw => ?_⟩) hSA0 ?_; rotate_left; focus (go_simp; try with_reducible rfl))
    simp only [Act.put, List.setIfInBounds_toArray, List.set_cons_zero, List.set_cons_succ]
    refine wpAnyH_ready (rs := [6]) (by kernel_rfl) (by simp) ?_
    refine AllReadyH.cons rfl (fun K hK => ?_) AllReadyH.nil
    go_simp
    go_wp2_with (go_at_call 112; refine (place_any w3d g P its k m3 m3 Rw3d.out (Nat.le_of_lt HM3.out)).mono ?_; rintro e wz ⟨rfl, rfl⟩; rw [← HQ.out])
    refine hK.out _ _ (hSA0) (fun hSA1 => ?_)
    clear hK K
    (refine wpAnyH_take (i := 10) (oi := ⟨some 31, .indexAddr 103 (.tmp 30) (.tmp 27), 0, "waiting.go:28", #[⟨9, .data⟩, ⟨6, .data⟩, ⟨0, .phase⟩, ⟨1, .phase⟩, ⟨2, .phase⟩, ⟨3, .phase⟩, ⟨4, .phase⟩, ⟨5, .phase⟩, ⟨6, .phase⟩, ⟨7, .phase⟩], none⟩) (v := ?_) rfl (by kernel_rfl) (by kernel_rfl) (by kernel_rfl) (fun _ _ _ h => h) (Or.inl ⟨by rfl, fun w' hSw => ?_⟩) hSA1 ?_; rotate_left; focus (go_simp; try with_reducible rfl))
    simp only [Act.put, List.setIfInBounds_toArray, List.set_cons_zero, List.set_cons_succ]
    refine wpAnyH_ready (rs := [11]) (by kernel_rfl) (by simp) ?_
    refine AllReadyH.cons rfl (fun K hK => ?_) AllReadyH.nil
    refine step_store_blk rfl 40 _ _ rfl g (q * 69) 107 (ringCells its k m3) x.cells (by rfl) (by rfl) Rw3d.out.blk (by rw [Rw3d.out.cells_len, BlkV.cells_len HXF.out]; have := q1; omega) (by rw [BlkV.cells_len HXF.out]; exact isBlk) (BlkV.one x) ?_
    intro w9 o9 z9 b9
    have R9 := hide (Rw3d.out.put (k := q) (by omega) o9 b9 Xw3d.out HS.out)
    have O9 := hide (Ow3d.out.trans o9 fun _ _ h => h)
    simp only [Act.put]
    refine hK.out _ _ (⟨R9.out.many, range_only hSA1.2 o9 (fun e => HGP.out e.symm)⟩) (fun hSA2 => ?_)
    clear hK K
    refine wpAnyH_done (by kernel_rfl) ?_ _
    have c9 := R9.out.many
    have f9 := R9.out.blk.frozen 553
    have R10 := hide (show RingAt (w9.setCell ⟨g, 553, none⟩ (.int .i64 ((m3 : Int) + 1))) g P (its.set q x) k (m3 + 1) from R9.out.setMany (m3 + 1) (by have := HM3.out; omega))
    have O10 := hide (O9.out.trans (Only.cell1 w9 g 553 (.int .i64 ((m3 : Int) + 1))) fun _ _ h => h)
    have HIN2 := hide (show inRing (its.set q x) k (m3 + 1) = inRing its k m3 ++ [x] by rw [HQ.out]; exact inRing_more R3.out.len k m3 HM3.out x)
    have m9 : (m3 : Int) < 8 := by have := HM3.out; omega
    clear b9 z9 o9
    go_wp2_with fail
    go_end0
    exact ⟨its.set q x, k, m3 + 1, rfl, R10.out, by rw [HIN2.out, HL.out], O10.out⟩
    )
end Go.Proofs.Ytbpmcnfmgaolnaa
