/-
  The device: New, Size, Down, Budget, Read; a slab of one byte.
-/
import Derived.Test.YtjipgimnhkliaaaSlabB
namespace Go.Proofs.Ytjipgimnhkliaaa
open Go.RowKit
attribute [local go_sem ↓] loadSlab_fold

theorem repOf {w : World} {b k s : Nat} {wv : Value} {d : Dev} (h : DevIn w b k s wv d) (hG : d.Good) : DevRep w b (fun i => i = b ∨ i = k ∨ i = s ∨ wv.ownBlock = some i) d := ⟨k, s, wv, h, hG, rfl⟩

set_option maxHeartbeats 400000 in
theorem size_any (w : World) (b : Nat) (F : Nat → Prop) (d : Dev) (h : DevRep w b F d) :
    Calls Try.prog 23 #[.pointer (some ⟨b, 0, none⟩)] w fun e w' => e = .returned (.int .i64 (d.kept.length : Int)) ∧ w = w' := by
  obtain ⟨k, s, wv, hi, hG, rfl⟩ := h
  have hc : w.cell? ⟨b, 1, none⟩ = some (.slice (some ⟨s, 0, none⟩) d.kept.length d.kept.length) := by rw [hi.1.cell]; rfl
  clear hi hG
  go_enter Try.func23, Try.ntmps23
  go_wp2
  go_ret
  exact ⟨rfl, rfl⟩
set_option maxHeartbeats 400000 in
theorem down_any (w : World) (b : Nat) (F : Nat → Prop) (d : Dev) (h : DevRep w b F d) :
    Calls Try.prog 22 #[.pointer (some ⟨b, 0, none⟩)] w fun e w' => e = .returned (.bool d.down) ∧ w = w' := by
  obtain ⟨k, s, wv, hi, hG, rfl⟩ := h
  have hc : w.cell? ⟨b, 4, none⟩ = some (.bool d.down) := by rw [hi.1.cell]; rfl
  clear hi hG
  go_enter Try.func22, Try.ntmps22
  go_wp2
  go_ret
  exact ⟨rfl, rfl⟩
theorem DevIn.setb {w : World} {b k s : Nat} {wv : Value} {d : Dev} (hi : DevIn w b k s wv d) (n : Int) : DevIn (w.setCell ⟨b, 3, none⟩ (.int .i64 n)) b k s wv { d with budget := n } := by
  have hn := hi.ne
  have ho : Only (fun i => i = b) w (w.setCell ⟨b, 3, none⟩ (.int .i64 n)) := (Only.refl (fun i => i = b) w).setCell (p := ⟨b, 3, none⟩) (.inr rfl) _
  exact ⟨hi.1.set_ 3 _, ho.blk hi.2.1 (Ne.symm hn.2.1), ho.blk hi.2.2.1 (Ne.symm hn.2.2.1), ho.own hi.2.2.2.1 (fun g e hg => hn.2.2.2.1 (hg ▸ e)), hi.2.2.2.2⟩
theorem Dev.Good.budget {d : Dev} (h : d.Good) (n : Int) (hn : n ≤ 9223372036854775807) : ({ d with budget := max n (-1) } : Dev).Good :=
  ⟨h.seen, h.few, h.k128, h.s128, h.wat, by show -1 ≤ max n (-1); omega, by show max n (-1) ≤ _; omega⟩
def Dev.limit (d : Dev) (n : Int) : Dev := { d with budget := max n (-1) }
set_option maxHeartbeats 400000 in
theorem budget_any (w : World) (b : Nat) (F : Nat → Prop) (d : Dev) (n : Int) (h : DevRep w b F d) (hn : n ≤ 9223372036854775807) :
    Calls Try.prog 21 #[.pointer (some ⟨b, 0, none⟩), .int .i64 n] w fun e w' => e = .returned (.tuple #[]) ∧ DevRep w' b F (d.limit n) ∧ Only F w w' := by
  obtain ⟨k, s, wv, hi, hG, rfl⟩ := h
  have hc : w.cell? ⟨b, 3, none⟩ = some (.int .i64 d.budget) := by rw [hi.1.cell]; rfl
  have hf := hi.1.frozen 3
  have HI := hide hi
  clear hi
  go_enter Try.func21, Try.ntmps21
  go_wp2
  all_goals
    go_end0
    refine ⟨rfl, ?_, (Only.refl _ w).setCell (p := ⟨b, 3, none⟩) (.inr (.inl rfl)) _⟩
    have hm : d.limit n = { d with budget := (d.limit n).budget } := rfl
    have hv : (d.limit n).budget = max n (-1) := rfl
    refine ⟨k, s, wv, ?_, hG.budget n hn, rfl⟩
    rw [hm, hv]
    first
      | (rw [show max n (-1) = n by omega]; exact HI.out.setb n)
      | (rw [show max n (-1) = -1 by omega]; exact HI.out.setb (-1))

/-! ### A slab of one byte -/
def zeroS : Slb := List.replicate 128 0
def fullS (v : Int) : Slb := List.replicate 127 v ++ [(v + 1) % 256]
theorem zeroS_length : zeroS.length = 128 := by simp [zeroS]
theorem fullS_length (v : Int) : (fullS v).length = 128 := by simp [fullS]
/-- What the loop has made behind k rounds. -/
def partS (v : Int) (k : Nat) : Slb := List.replicate k v ++ List.replicate (128 - k) 0
theorem partS_get (v : Int) (k : Nat) (h : k < 128) : (enc (partS v k))[k]? = some (.int .u8 0) := by
  unfold enc partS
  rw [List.getElem?_map, List.getElem?_append_right (by simp), List.getElem?_replicate, if_pos (by simp; omega)]
  rfl
theorem partS_last (v : Int) : (enc (partS v 128))[127]? = some (.int .u8 v) := by
  unfold enc partS
  rw [List.getElem?_map, List.getElem?_append_left (by simp), List.getElem?_replicate, if_pos (by omega)]
  rfl
theorem partS_set (v : Int) (k : Nat) (h : k < 128) : (enc (partS v k)).set k (.int .u8 v) = enc (partS v (k + 1)) := by
  unfold enc partS
  rw [← List.map_set, List.set_append_right _ _ (by simp)]
  obtain ⟨m, hm⟩ : ∃ m, 128 - k = m + 1 := ⟨128 - k - 1, by omega⟩
  have hm' : 128 - (k + 1) = m := by omega
  rw [hm, hm', List.replicate_succ, List.replicate_succ']
  simp
theorem fullS_eq (v : Int) : (enc (partS v 128)).set 127 (.int .u8 ((v + 1) % 256)) = enc (fullS v) := by
  unfold enc partS fullS
  rw [← List.map_set, show List.replicate 128 v = List.replicate 127 v ++ [v] from rfl, List.append_assoc, List.set_append_right _ _ (by simp)]
  simp
theorem zero33 : (Try.prog.info? 33).map (·.zero) = some (some (.agg (enc zeroS).toArray)) := by kernel_rfl
def mkSlab (parts : Array (Nat × Value)) : Sem Value := Instr.build 33 parts
theorem mkSlab_fold (parts : Array (Nat × Value)) : Instr.build 33 parts = mkSlab parts := rfl
theorem mkSlab_run (w : World) : (mkSlab #[]).run Try.prog w = .ok (.agg (enc zeroS).toArray) w := by kernel_rfl
attribute [local go_sem ↓] mkSlab_fold
attribute [local go_sem] mkSlab_run

set_option maxHeartbeats 1000000 in
set_option maxRecDepth 100000 in
theorem full_any (w : World) (v : Int) :
    Calls Try.prog 17 #[.int .u8 v] w fun e w' => e = .returned (.agg (enc (fullS v)).toArray) ∧ Below w.heap.size w w' := by
  have i33 : (Try.prog.info? 33).map (·.size) = some (enc zeroS).length := by rw [isz33, enc_length, zeroS_length]
  have hI := hide i33
  clear i33
  go_enter Try.func17, Try.ntmps17
  go_wp2_with (first
    | (refine wpList_alloc_agg rfl 33 rfl (enc zeroS) zero33 ?_; simp only [Act.put, List.setIfInBounds_toArray, List.set_cons_zero, List.set_cons_succ, World.size_alloc])
    | (refine wpList_store_blk rfl 33 _ _ rfl (w.heap.size + 1) 0 33 (enc zeroS) (enc zeroS) (by rfl) (by rfl) ?_ (Nat.le_of_eq (Nat.zero_add _)) hI.out (enc_one _) ?_; (exact Blk.new1 w _ _ _); intro w1 o1 z1 b1; simp only [Act.put]))
  rw [lay_all _ _ rfl] at b1
  obtain ⟨W, hW⟩ : ∃ W, W = (w.alloc (.cells (enc zeroS).toArray 33)).alloc (.cells (enc zeroS).toArray 33) := ⟨_, rfl⟩
  rw [← hW] at o1 z1
  have HW := hide hW
  have hz : W.heap.size = w.heap.size + 2 := by rw [hW]; simp
  clear hW
  go_wp2
  go_loopw [6] (fun i wr => ∃ k : Nat, k ≤ 128 ∧ i = .int .i64 k ∧ Blk wr (w.heap.size + 1) 33 (enc (partS v k)) ∧ Only (fun i => i = w.heap.size + 1) W wr) (fun i _ => 128 - (intOf i).toNat)
  case atStart => exact ⟨0, by omega, rfl, b1, o1⟩
  case round =>
    obtain ⟨k, hk, rfl, hb, ho⟩ := hrel
    have hf := hb.frozen
    by_cases hlt : k < 128
    · have hc : wr.cell? ⟨w.heap.size + 1, k, none⟩ = some (.int .u8 0) := by rw [hb.cell]; exact partS_get v k hlt
      have hff := hf k
      clear hf
      go_wp2
      go_roundw
      case rel => exact ⟨k + 1, by omega, by go_num, by rw [← partS_set v k hlt]; exact hb.set_ k _, ho.setCell (p := ⟨w.heap.size + 1, k, none⟩) (.inr rfl) _⟩
      case measure => simp [intOf]; omega
    · have hk' : k = 128 := by omega
      subst hk'
      have hc : wr.cell? ⟨w.heap.size + 1, 127, none⟩ = some (.int .u8 v) := by rw [hb.cell]; exact partS_last v
      have hff := hf 127
      clear hf
      have hb2 := hb.set_ 127 (.int .u8 ((v + 1) % 256))
      rw [fullS_eq] at hb2
      have hu := hide Try.underlying33
      have hI' : Hid ((Try.prog.info? 33).map (·.size) = some (enc (fullS v)).length) := by
        show _ = _
        rw [isz33, enc_length, fullS_length]
      have bH : Blk (wr.setCell ⟨w.heap.size + 1, 127, none⟩ (.int .u8 ((v + 1) % 256))) w.heap.size 33 (enc zeroS) := by
        have h0 : Blk W w.heap.size 33 (enc zeroS) := by rw [HW.out]; exact (Blk.new w _ _).alloc _
        exact (ho.blk h0 (by omega)).far (p := ⟨w.heap.size + 1, 127, none⟩) (by simp) _
      go_wp2_with (first
        | (refine wpList_load_blk rfl 33 _ rfl (w.heap.size + 1) 0 33 (enc (fullS v)) (enc (fullS v)) _ (by rfl) ?_ (fun j v hv => by simpa using hv) hu.out rfl hI'.out ?_; (exact hb2); simp only [Act.put, List.setIfInBounds_toArray, List.set_cons_zero, List.set_cons_succ])
        | (refine wpList_store_blk rfl 33 _ _ rfl w.heap.size 0 33 (enc zeroS) (enc (fullS v)) (by rfl) (by rfl) bH (Nat.le_of_eq (by rw [enc_length, enc_length, fullS_length, zeroS_length])) hI'.out (enc_one _) ?_; intro w2 o2 z2 b2; simp only [Act.put]))
      rw [lay_all _ _ (by rw [enc_length, enc_length, fullS_length, zeroS_length])] at b2
      refine bodyPost_ret (results_cell_row rfl _ _ w.heap.size 33 _ _ _ (by rfl) b2 hu.out rfl (by rw [hI'.out]; simp)) rfl ⟨rfl, ?_⟩
      have e1 : Below w.heap.size w W := by rw [HW.out]; exact ((Below.refl _ _).alloc (Nat.le_refl _) _).alloc (by simp) _
      have e2 : Below w.heap.size W wr := ho.below (by omega) (fun i hi => by omega)
      have e3 := (e1.trans e2).setCell (p := ⟨w.heap.size + 1, 127, none⟩) (by simp) (.int .u8 ((v + 1) % 256))
      exact e3.trans (o2.below e3.size (fun i hi => by omega))
end Go.Proofs.Ytjipgimnhkliaaa
