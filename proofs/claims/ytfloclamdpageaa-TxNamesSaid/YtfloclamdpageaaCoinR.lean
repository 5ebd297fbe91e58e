/-
  coin: references as bytes; the document's.
-/
import Derived.Test.YtfloclamdpageaaRefD
namespace Go.Proofs.Ytfloclamdpageaa
open Go.RowKit

theorem RefD.bys {w : World} {g : Nat} {t : TypeId} {r : RefD} (hf : r.Fine) (h : Blk w g t r.cells) : Bys w (some ⟨g, 0, none⟩) 32 r.id := by
  refine ⟨hf.len, hf.byt, fun _ => ⟨g, 0, rfl, fun j v hv => ?_⟩⟩
  rw [Nat.zero_add, h.cell, RefD.cells, List.getElem?_append_left (by rw [List.length_map]; exact (List.getElem?_eq_some_iff.1 hv).1), List.getElem?_map, hv]
  rfl
theorem RefD.c32 {w : World} {g : Nat} {t : TypeId} {r : RefD} (hf : r.Fine) (h : Blk w g t r.cells) : w.cell? ⟨g, 32, none⟩ = some (.int .u32 r.at_) := by
  rw [h.cell, RefD.cells, List.getElem?_append_right (by simp [hf.len])]
  simp [hf.len]
set_option maxHeartbeats 1000000 in
set_option maxRecDepth 100000 in
theorem RefBytes_any (w : World) (r : RefD) (hf : r.Fine) :
    Calls Try.prog 26 #[.agg r.cells.toArray] w (MinePost 5 w none r.bytes) := by
  have B0 := Blk.new w 47 r.cells
  have hB := hide (RefD.bys hf B0)
  have k32 := RefD.c32 hf B0
  have h0 := hf.at0
  have h1 := hf.at1
  have hb0 := hide (show Below w.heap.size w (w.alloc (.cells r.cells.toArray 47)) from below_alloc (Below.refl _ _) _)
  have E : Hid (r.bytes = r.id ++ dig r.at_.toNat (Rd.within 4).toNat) := hide rfl
  generalize r.at_ = n at k32 h0 h1 E
  have hw := show IntKind.u64.wrap n = n by rw [IntKind.wrap_u64]; omega
  clear B0 hf
  go_enter Try.func26, Try.ntmps26
  go_wp2_with fail
  obtain ⟨w1, hw1⟩ : ∃ w1, w1 = w.alloc (.cells r.cells.toArray 47) := ⟨_, rfl⟩
  rw [← hw1] at k32 hB hb0 ⊢
  clear hw1
  have hBd : Hid (Bys w1.drew (some ⟨w.heap.size, 0, none⟩) 32 r.id) := hB
  go_region_held (fun w' => w'.cell? ⟨w.heap.size, 32, none⟩ = some (.int .u32 n)) (exact k32)
    ((go_at_call 63; (first | (with_reducible refine (Fixed_any w1 w1 (some ⟨w.heap.size, 0, none⟩) 32 32 r.id n 4 (Below.refl _ _) hB.out h0 (by omega) (by decide)).mono ?_) | (with_reducible refine (Fixed_any w1 w1.drew (some ⟨w.heap.size, 0, none⟩) 32 32 r.id n 4 (below_drew (Below.refl _ _)) hBd.out h0 (by omega) (by decide)).mono ?_)); rintro e w3 ⟨A3, n3, c3, rfl, t3, f3⟩; have k32 : w3.cell? ⟨w.heap.size, 32, none⟩ = some (.int .u32 n) := cell_under t3.below k32))
  all_goals
    go_wp2
    go_ret
    rw [E.out]
    exact MinePost.mk (t3.older hb0.out) ((f3 (Fr.none _)).older hb0.out)
set_option maxHeartbeats 1000000 in
set_option maxRecDepth 100000 in
theorem refRefBytes_any (w : World) (r : RefD) (hf : r.Fine) :
    Calls Try.prog 28 #[.agg r.cells.toArray] w (MinePost 5 w none r.bytes) := by
  have B0 := Blk.new w 47 r.cells
  have hB := hide (RefD.bys hf B0)
  have k32 := RefD.c32 hf B0
  have h0 := hf.at0
  have h1 := hf.at1
  have hb0 := hide (show Below w.heap.size w (w.alloc (.cells r.cells.toArray 47)) from below_alloc (Below.refl _ _) _)
  have E : Hid (r.bytes = [] ++ r.id ++ dig r.at_.toNat (Rd.within 4).toNat) := hide rfl
  generalize r.at_ = n at k32 h0 h1 E
  have hw := show IntKind.u64.wrap n = n by rw [IntKind.wrap_u64]; omega
  clear B0 hf
  go_enter Try.func28, Try.ntmps28
  go_wp2_with fail
  obtain ⟨w1, hw1⟩ : ∃ w1, w1 = w.alloc (.cells r.cells.toArray 47) := ⟨_, rfl⟩
  rw [← hw1] at k32 hB hb0 ⊢
  clear hw1
  have K00 := hide k32
  have hBa := hide (fun (o : Obj) => hB.out.below ((Below.refl _ w1).drew.alloc (Nat.le_refl _) o))
  have hbx := hide (fun (o : Obj) => ((Below.refl _ w1).drew.alloc (Nat.le_refl _) o))
  go_region_held_law (fun w' => w'.cell? ⟨w.heap.size, 32, none⟩ = some (.int .u32 n))
    (first | exact k32 | exact cell_under (hbx.out _) k32)
    (first
      | (refine step_app (by rfl) _ (by rfl) _ _ (by rfl) w1 _ 0 0 [] (by rfl) (Mine.nil (hbx.out _) _) (some ⟨w.heap.size, 0, none⟩) 32 32 r.id (by rfl) (hBa.out _) (by decide) ?_; intro A5 n5 c5 w5 t5 f5; have K32 := hide (cell_under t5.below K00.out); have k32 := K32.out)
      | (go_at_call 65; refine (reffixed_any w5 w5 n 4 (Below.refl _ _) h0 (by omega)).mono ?_; rintro e w6 ⟨A6, n6, c6, rfl, t6, f6⟩; have k32 := cell_under t6.below K32.out)
      | (refine step_app (by rfl) _ (by rfl) _ _ (by rfl) w1 A5 n5 c5 _ (by rfl) (t5.keep t6.below) A6 n6 c6 _ (by rfl) t6.bys (by have e1 := t5.len; have e2 := t6.len; have e4 := within_range 4; rw [dig_length] at e2; rw [List.nil_append, hB.out.1] at e1; omega) ?_; intro A7 n7 c7 w7 t7 f7; have k32 := cell_under t7.below K00.out))
  all_goals
    go_wp2
    go_ret
    rw [E.out]
    exact MinePost.mk (t7.older hb0.out) (Fr.older (f7 (.inl (f5 (.inr (by decide))))) hb0.out)
end Go.Proofs.Ytfloclamdpageaa
