/-
  bynamelaw13.SlabNames answers true: the errors and the limits have their numbers. No condition.
-/
import Derived.Test.YtjipgimnhkliaaaSlabG
namespace Go.Proofs.Ytjipgimnhkliaaa
open Go.RowKit
attribute [local go_sem ↓] mkSlab_fold eqlSlab_fold neqSlab_fold loadSlab_fold
attribute [local go_sem] mkSlab_run mkSlab_run1 guardSlab

theorem names_read : (newDev 1).read 1 = (zeroS, 131) := by decide +kernel
theorem names_write1 : (newDev 1).write (-1) zeroS = (newDev 1, 131) := rfl
def names3 : Dev := ((newDev 1).limit 0).after
theorem names_write2 : ((newDev 1).limit 0).write 0 zeroS = (names3, 132) := rfl
theorem names_sync : names3.sync = (names3.after, 132) := rfl
theorem names_down : names3.after.down = true := rfl
theorem names_w1 : (newDev 1).written.length ≤ 1000000 := by decide
theorem names_w2 : ((newDev 1).limit 0).written.length ≤ 1000000 := by decide
theorem names_w3 : names3.written.length ≤ 1000000 := by decide
theorem names_n1 : ((newDev 9999).kept.length : Int) = 4096 := by
  have : (newDev 9999).kept.length = newN 9999 := by simp [newDev]
  rw [this]; rfl
theorem names_n2 : ((newDev (-1)).kept.length : Int) = 0 := by
  have : (newDev (-1)).kept.length = newN (-1) := by simp [newDev]
  rw [this]; rfl

set_option maxHeartbeats 1000000 in
set_option maxRecDepth 100000 in
theorem names_any (w : World) : Calls Try.prog 5 #[] w fun e w' => e = .returned (.bool true) ∧ Below w.heap.size w w' := by
  have I1 := hide (isz33' zeroS zeroS_length)
  have n1 := hide names_n1
  have n2 := hide names_n2
  go_enter Try.func5, Try.ntmps5
  go_wp2_with (go_at_call 14; refine (alive_any _).mono ?_; rintro e w1 ⟨rfl, hb1⟩)
  refine (new_any _ _).mono ?_
  rintro e w2 hn
  obtain ⟨b, F, rfl, s2⟩ := St.fresh hn
  clear hn
  go_wp2_with (first
    | (go_at_call 19; refine (read_any _ b F _ _ s2.rep).mono ?_; rintro e w3 ⟨rfl, hb3⟩; rw [names_read])
    | (refine wpList_alloc_agg rfl 33 rfl (enc zeroS) zero33 ?_; simp only [Act.put, List.setIfInBounds_toArray, List.set_cons_zero, List.set_cons_succ])
    | (refine wpList_store_blk rfl 33 _ _ rfl w3.heap.size 0 33 (enc zeroS) (enc zeroS) (by rfl) (by rfl) (Blk.new w3 _ _) (Nat.le_of_eq (by rw [Nat.zero_add])) I1.out (enc_one _) ?_; intro w4 o4 z4 b4; simp only [Act.put]))
  have s4 : St w1 w4 b F (newDev 1) := ((s2.under hb3).alloc _).other o4 (fun i hi e => by have := (s2.under hb3).lt i hi; omega) (fun i e => by have := (s2.under hb3).below.size; omega)
  refine (write_any _ b F _ _ zeroS s4.rep zeroS_length names_w1).mono ?_
  rintro e w5 hp
  obtain ⟨rfl, F5, s5, o5, g5⟩ := s4.next hp
  clear hp
  rw [names_write1] at s5 ⊢
  go_wp2_with fail
  refine (budget_any _ b F5 _ _ s5.rep (by decide)).mono ?_
  rintro e w6 ⟨rfl, r6, o6⟩
  have s6 := s5.keepRep r6 o6
  go_wp2_with fail
  refine (write_any _ b F5 _ _ zeroS s6.rep zeroS_length names_w2).mono ?_
  rintro e w7 hp
  obtain ⟨rfl, F7, s7, o7, g7⟩ := s6.next hp
  clear hp
  rw [names_write2] at s7 ⊢
  go_wp2_with fail
  refine (sync_any _ b F7 _ s7.rep names_w3).mono ?_
  rintro e w8 hp
  obtain ⟨rfl, F8, s8, o8, g8⟩ := s7.next hp
  clear hp
  rw [names_sync] at s8 ⊢
  go_wp2_with fail
  refine (down_any _ b F8 _ s8.rep).mono ?_
  rintro e w' ⟨rfl, rfl⟩
  rw [names_down]
  go_wp2_with fail
  refine (new_any _ _).mono ?_
  rintro e w9 hn
  obtain ⟨b9, F9, rfl, s9⟩ := St.fresh hn
  clear hn
  go_wp2_with fail
  refine (size_any _ b9 F9 _ s9.rep).mono ?_
  rintro e w' ⟨rfl, rfl⟩
  rw [n1.out]
  go_wp2_with fail
  refine (new_any _ _).mono ?_
  rintro e w10 hn
  obtain ⟨b10, F10, rfl, s10⟩ := St.fresh hn
  clear hn
  go_wp2_with fail
  refine (size_any _ b10 F10 _ s10.rep).mono ?_
  rintro e w' ⟨rfl, rfl⟩
  rw [n2.out]
  go_wp2
  go_ret
  refine ⟨rfl, ?_⟩
  have h8 := hb1.trans (s8.below.mono hb1.size)
  exact (h8.trans (s9.below.mono h8.size)).trans (s10.below.mono (Nat.le_trans h8.size s9.below.size))
end Go.Proofs.Ytjipgimnhkliaaa
