/-
  The device: Read, New.
-/
import Derived.Test.YtjipgimnhkliaaaSlabC
namespace Go.Proofs.Ytjipgimnhkliaaa
open Go.RowKit
attribute [local go_sem ↓] mkSlab_fold
attribute [local go_sem] mkSlab_run

def Dev.read (d : Dev) (at_ : Int) : Slb × Int := if d.has at_ then (d.seen[at_.toNat]?.getD zeroS, 0) else (zeroS, 131)
theorem isz33' (s : Slb) (hs : s.length = 128) : (Try.prog.info? 33).map (·.size) = some (enc s).length := by rw [isz33, enc_length, hs]

set_option maxHeartbeats 400000 in
set_option maxRecDepth 100000 in
theorem read_no (w : World) (b : Nat) (F : Nat → Prop) (d : Dev) (at_ : Int) (h : DevRep w b F d) (hh : d.has at_ = false) :
    Calls Try.prog 19 #[.pointer (some ⟨b, 0, none⟩), .int .i64 at_] w fun e w' => e = .returned (.tuple #[.agg (enc (d.read at_).1).toArray, .int .i64 (d.read at_).2]) ∧ Below w.heap.size w w' := by
  have hr : d.read at_ = (zeroS, 131) := by simp [Dev.read, hh]
  rw [hr]
  have hI := hide (isz33' zeroS zeroS_length)
  have hu := hide Try.underlying33
  go_enter Try.func19, Try.ntmps19
  go_wp2_with (first
    | (go_at_call 48; refine (has_any _ b F d _ (h.alloc _)).mono ?_; rintro e w' ⟨rfl, rfl⟩)
    | (refine wpList_alloc_agg rfl 33 rfl (enc zeroS) zero33 ?_; simp only [Act.put, List.setIfInBounds_toArray, List.set_cons_zero, List.set_cons_succ])
    | (refine wpList_store_blk rfl 33 _ _ rfl w.heap.size 0 33 (enc zeroS) (enc zeroS) (by rfl) (by rfl) (Blk.new w _ _) (Nat.le_of_eq (Nat.zero_add _)) hI.out (enc_one _) ?_; intro w2 o2 z2 b2; simp only [Act.put]))
  rw [lay_all _ _ rfl] at b2
  refine bodyPost_ret (results_cell_tmp_blk rfl _ _ w.heap.size 33 _ _ (by rfl) b2 hu.out rfl hI.out) rfl ⟨rfl, ?_⟩
  exact ((Below.refl _ _).alloc (Nat.le_refl _) _).trans (o2.below (by simp) (fun i hi => by omega))
set_option maxHeartbeats 400000 in
set_option maxRecDepth 100000 in
theorem read_yes (w : World) (b : Nat) (F : Nat → Prop) (d : Dev) (i : Nat) (h : DevRep w b F d) (hh : d.has i = true) :
    Calls Try.prog 19 #[.pointer (some ⟨b, 0, none⟩), .int .i64 i] w fun e w' => e = .returned (.tuple #[.agg (enc (d.read i).1).toArray, .int .i64 (d.read i).2]) ∧ Below w.heap.size w w' := by
  have hG := h.good
  have hb : i < d.kept.length := by simp only [Dev.has, Bool.and_eq_true, decide_eq_true_eq] at hh; omega
  have hbs : i < d.seen.length := by rw [hG.seen]; exact hb
  obtain ⟨sl, hsl⟩ : ∃ sl, d.seen[i]? = some sl := ⟨_, List.getElem?_eq_getElem hbs⟩
  have h128 : sl.length = 128 := hG.s128 sl (List.mem_of_getElem? hsl)
  have hr : d.read i = (sl, 0) := by simp [Dev.read, hh, hsl]
  rw [hr]
  have hI := hide (isz33' sl h128)
  have hu := hide Try.underlying33
  obtain ⟨k, s, wv, hi, _, hF⟩ := h.alloc (.cells (enc zeroS).toArray 33)
  have c1 : (w.alloc (.cells (enc zeroS).toArray 33)).cell? ⟨b, 1, none⟩ = some (.slice (some ⟨s, 0, none⟩) d.kept.length d.kept.length) := by rw [hi.1.cell]; rfl
  have hs := hi.2.2.1
  have HS := hide hs
  have i0 : (0 : Int) ≤ (i : Int) := by omega
  have i1 : (i : Int) < (d.kept.length : Int) := by omega
  clear hs hi hF hr
  go_enter Try.func19, Try.ntmps19
  go_wp2_with (first
    | (go_at_call 48; refine (has_any _ b F d _ (h.alloc _)).mono ?_; rintro e w' ⟨rfl, rfl⟩)
    | (refine wpList_alloc_agg rfl 33 rfl (enc zeroS) zero33 ?_; simp only [Act.put, List.setIfInBounds_toArray, List.set_cons_zero, List.set_cons_succ])
    | (refine wpList_load_blk rfl 33 _ rfl s (i * 128) 33 (rows d.seen) (enc sl) _ (by rfl) HS.out (rows_get d.seen i sl hG.s128 hsl) hu.out rfl hI.out ?_; simp only [Act.put, List.setIfInBounds_toArray, List.set_cons_zero, List.set_cons_succ])
    | (refine wpList_store_blk rfl 33 _ _ rfl w.heap.size 0 33 (enc zeroS) (enc sl) (by rfl) (by rfl) (Blk.new w _ _) (Nat.le_of_eq (by rw [enc_length, enc_length, h128, zeroS_length])) hI.out (enc_one _) ?_; intro w2 o2 z2 b2; simp only [Act.put]))
  rw [lay_all _ _ (by rw [enc_length, enc_length, h128, zeroS_length])] at b2
  refine bodyPost_ret (results_cell_tmp_blk rfl _ _ w.heap.size 33 _ _ (by rfl) b2 hu.out rfl hI.out) rfl ⟨rfl, ?_⟩
  exact ((Below.refl _ _).alloc (Nat.le_refl _) _).trans (o2.below (by simp) (fun i hi => by omega))
theorem read_any (w : World) (b : Nat) (F : Nat → Prop) (d : Dev) (at_ : Int) (h : DevRep w b F d) :
    Calls Try.prog 19 #[.pointer (some ⟨b, 0, none⟩), .int .i64 at_] w fun e w' => e = .returned (.tuple #[.agg (enc (d.read at_).1).toArray, .int .i64 (d.read at_).2]) ∧ Below w.heap.size w w' := by
  cases hh : d.has at_ with
  | false => exact read_no w b F d at_ h hh
  | true =>
    obtain ⟨i, rfl⟩ : ∃ i : Nat, at_ = i := by
      simp only [Dev.has, Bool.and_eq_true, decide_eq_true_eq] at hh
      exact ⟨at_.toNat, by omega⟩
    exact read_yes w b F d i h hh

/-! ### New -/
def newN (n : Int) : Nat := (max 0 (min n 4096)).toNat
def newDev (n : Int) : Dev := { kept := List.replicate (newN n) zeroS, seen := List.replicate (newN n) zeroS, written := [], budget := -1, down := false }
theorem newDev_good (n : Int) : (newDev n).Good := by
  refine ⟨by simp [newDev], by simp [newDev, newN]; omega, ?_, ?_, by simp [newDev], by simp [newDev], by simp [newDev]⟩
  all_goals (intro s hs; rw [(List.mem_replicate.1 hs).2]; exact zeroS_length)
theorem rows_zero (n : Nat) : rows (List.replicate n zeroS) = List.replicate (n * 128) (.int .u8 0) := by
  induction n with
  | zero => simp [rows]
  | succ n ih =>
    rw [List.replicate_succ]
    have : rows (zeroS :: List.replicate n zeroS) = enc zeroS ++ rows (List.replicate n zeroS) := rfl
    rw [this, ih, show (n + 1) * 128 = 128 + n * 128 by omega, ← List.replicate_append_replicate]
    simp [enc, zeroS]
theorem make33 (n : Nat) (hn : n ≤ 4096) (w : World) : (Instr.makeSlice 53 (.int .i64 (n : Int)) (.int .i64 (n : Int))).run Try.prog w =
    .ok (.slice (some ⟨w.heap.size, 0, none⟩) n n) (w.alloc (.cells (rows (List.replicate n zeroS)).toArray 33)) := by
  have hx : (Try.prog.info? 33).map (fun i => (i.zero, i.size, i.bytes)) = some (some (.agg (List.replicate 128 (.int .u8 0)).toArray), 128, 128) := by kernel_rfl
  obtain ⟨i, hi, hz, hs, hby⟩ := info_parts hx
  have := run_make_rowN (P := Try.prog) 53 33 i _ Try.underlying53 hi hz .i64 .i64 n n (Nat.le_refl _) (by rw [hby]; omega) (by omega) w
  rw [this, hs, rows_zero, ← madeCells_replicate (.int .u8 0) 128 (n * 128) (by decide)]
  rfl
def big : Nat := 4096
def NewPost (w : World) (n : Int) (e : Ending) (w' : World) : Prop :=
  ∃ b F, e = .returned (.pointer (some ⟨b, 0, none⟩)) ∧ DevRep w' b F (newDev n) ∧ Below w.heap.size w w' ∧ ∀ i, F i → w.heap.size ≤ i
theorem new_fin (w : World) (n : Int) (m k s : Nat) (hm : newN n = m) (hks : k = w.heap.size ∧ s = w.heap.size + 1 ∨ s = w.heap.size ∧ k = w.heap.size + 1) :
    NewPost w n (.returned (.pointer (some ⟨w.heap.size + 2, 0, none⟩))) (((w.alloc (.cells (rows (List.replicate m zeroS)).toArray 33)).alloc (.cells (rows (List.replicate m zeroS)).toArray 33)).alloc
      (.cells [Value.slice (some ⟨k, 0, none⟩) m m, .slice (some ⟨s, 0, none⟩) m m, .slice none 0 0, .int .i64 (-1), .bool false].toArray 88)).drew := by
  subst hm
  have hl : (newDev n).kept.length = newN n := by simp [newDev]
  have b0 : Blk (((w.alloc (.cells (rows (List.replicate (newN n) zeroS)).toArray 33)).alloc (.cells (rows (List.replicate (newN n) zeroS)).toArray 33)).alloc
      (.cells [Value.slice (some ⟨k, 0, none⟩) (newN n) (newN n), .slice (some ⟨s, 0, none⟩) (newN n) (newN n), .slice none 0 0, .int .i64 (-1), .bool false].toArray 88)).drew w.heap.size 33 (rows (List.replicate (newN n) zeroS)) :=
    ((Blk.new w _ _).alloc _).alloc _
  have b1 : Blk (((w.alloc (.cells (rows (List.replicate (newN n) zeroS)).toArray 33)).alloc (.cells (rows (List.replicate (newN n) zeroS)).toArray 33)).alloc
      (.cells [Value.slice (some ⟨k, 0, none⟩) (newN n) (newN n), .slice (some ⟨s, 0, none⟩) (newN n) (newN n), .slice none 0 0, .int .i64 (-1), .bool false].toArray 88)).drew (w.heap.size + 1) 33 (rows (List.replicate (newN n) zeroS)) :=
    (Blk.new1 w _ _ _).alloc _
  have b2 : Blk (((w.alloc (.cells (rows (List.replicate (newN n) zeroS)).toArray 33)).alloc (.cells (rows (List.replicate (newN n) zeroS)).toArray 33)).alloc
      (.cells [Value.slice (some ⟨k, 0, none⟩) (newN n) (newN n), .slice (some ⟨s, 0, none⟩) (newN n) (newN n), .slice none 0 0, .int .i64 (-1), .bool false].toArray 88)).drew (w.heap.size + 2) 88
      [Value.slice (some ⟨k, 0, none⟩) (newN n) (newN n), .slice (some ⟨s, 0, none⟩) (newN n) (newN n), .slice none 0 0, .int .i64 (-1), .bool false] := by
    have := Blk.new1 (w.alloc (.cells (rows (List.replicate (newN n) zeroS)).toArray 33)) (.cells (rows (List.replicate (newN n) zeroS)).toArray 33) 88
      [Value.slice (some ⟨k, 0, none⟩) (newN n) (newN n), .slice (some ⟨s, 0, none⟩) (newN n) (newN n), .slice none 0 0, .int .i64 (-1), .bool false]
    rw [World.size_alloc] at this
    exact this
  refine ⟨_, _, rfl, repOf (k := k) (s := s) (wv := .slice none 0 0) ⟨?_, ?_, ?_, ?_, ?_⟩ (newDev_good n), ?_, ?_⟩
  · rw [hl]; exact b2
  · rcases hks with ⟨rfl, rfl⟩ | ⟨rfl, rfl⟩
    · exact b0
    · exact b1
  · rcases hks with ⟨rfl, rfl⟩ | ⟨rfl, rfl⟩
    · exact b1
    · exact b0
  · exact World.ownsRow_nil _ _ _ _
  · omega
  · exact ((((Below.refl _ _).alloc (Nat.le_refl _) _).alloc (by simp) _).alloc (by simp; omega) _).drew
  · rintro i (h | h | h | h)
    · omega
    · rcases hks with h' | h' <;> omega
    · rcases hks with h' | h' <;> omega
    · simp [Value.ownBlock] at h
set_option maxHeartbeats 1000000 in
set_option maxRecDepth 100000 in
theorem new_mid (w : World) (m : Nat) (h0 : 0 < m) (h1 : m ≤ 4096) : Calls Try.prog 15 #[.int .i64 (m : Int)] w (NewPost w m) := by
  have hm := make33 m (by omega)
  have hN : Hid (newN (m : Int) = m) := by show _ = _; simp [newN]; omega
  go_enter Try.func15, Try.ntmps15
  go_wp2
  go_region_law (fail)
  all_goals
    go_wp2
    go_ret
    first
      | exact new_fin w m m w.heap.size (w.heap.size + 1) hN.out (by omega)
      | exact new_fin w m m (w.heap.size + 1) w.heap.size hN.out (by omega)
set_option maxHeartbeats 1000000 in
set_option maxRecDepth 100000 in
theorem new_low (w : World) (n : Int) (h0 : n ≤ 0) : Calls Try.prog 15 #[.int .i64 n] w (NewPost w n) := by
  have hm : ∀ w, (Instr.makeSlice 53 (.int .i64 0) (.int .i64 0)).run Try.prog w =
    .ok (.slice (some ⟨w.heap.size, 0, none⟩) 0 0) (w.alloc (.cells (rows (List.replicate 0 zeroS)).toArray 33)) := fun w => make33 0 (by omega) w
  have hN : Hid (newN n = 0) := by show _ = _; simp [newN]; omega
  go_enter Try.func15, Try.ntmps15
  go_wp2
  all_goals
    go_region_law (fail)
    all_goals
      go_wp2
      go_ret
      first
        | exact new_fin w n 0 w.heap.size (w.heap.size + 1) hN.out (by omega)
        | exact new_fin w n 0 (w.heap.size + 1) w.heap.size hN.out (by omega)
set_option maxHeartbeats 1000000 in
set_option maxRecDepth 100000 in
theorem new_high (w : World) (n : Int) (h0 : 4096 < n) : Calls Try.prog 15 #[.int .i64 n] w (NewPost w n) := by
  have hm : ∀ w, (Instr.makeSlice 53 (.int .i64 4096) (.int .i64 4096)).run Try.prog w =
    .ok (.slice (some ⟨w.heap.size, 0, none⟩) big big) (w.alloc (.cells (rows (List.replicate big zeroS)).toArray 33)) := fun w => make33 big (by decide) w
  have hN : Hid (newN n = big) := by show _ = _; simp [newN, big]; omega
  go_enter Try.func15, Try.ntmps15
  go_wp2
  all_goals
    go_region_law (fail)
    all_goals
      go_wp2
      go_ret
      first
        | exact new_fin w n big w.heap.size (w.heap.size + 1) hN.out (by omega)
        | exact new_fin w n big (w.heap.size + 1) w.heap.size hN.out (by omega)
theorem new_any (w : World) (n : Int) : Calls Try.prog 15 #[.int .i64 n] w (NewPost w n) := by
  by_cases h0 : n ≤ 0
  · exact new_low w n h0
  · by_cases h1 : 4096 < n
    · exact new_high w n h1
    · obtain ⟨m, rfl⟩ : ∃ m : Nat, n = m := ⟨n.toNat, by omega⟩
      exact new_mid w m (by omega) (by omega)
end Go.Proofs.Ytjipgimnhkliaaa
