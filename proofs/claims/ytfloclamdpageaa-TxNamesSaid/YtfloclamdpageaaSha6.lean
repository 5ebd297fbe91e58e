/-
  digest: Sum, Twice.
-/
import Derived.Test.YtfloclamdpageaaSha5
import Derived.Test.YtfloclamdpageaaCoinC
namespace Go.Proofs.Ytfloclamdpageaa
open Go.RowKit

theorem bcs_range {w : World} {g : Nat} {t : TypeId} {bs : List Int} (h : Blk w g t (bcs bs)) : w.rangeAt g 0 (bcs bs) := h.whole
theorem Bys.of_blk {w : World} {g : Nat} {t : TypeId} {bs : List Int} (h : Blk w g t (bcs bs)) (hb : Byt bs) : Bys w (some ⟨g, 0, none⟩) bs.length bs := by
  refine ⟨rfl, hb, fun _ => ⟨g, 0, rfl, fun j v hv => ?_⟩⟩
  rw [Nat.zero_add, h.cell]
  simp [bcs, hv]
set_option maxHeartbeats 4000000 in
set_option maxRecDepth 100000 in
theorem DSum_any (w : World) (A : Option Addr) (n c : Nat) (xss : List (List Int)) (hX : Byss w A n xss) (hshort : xss.dropLast.flatten.length < 64) (hlong : xss.flatten.length ≤ 100000000) (hn : n ≤ 1000000) :
    Calls Try.prog 90 #[.slice A n c] w fun e w' => e = .returned (.agg (bcs (sha xss.flatten)).toArray) ∧ Below w.heap.size w w' := by
  have hHH := hide Try.underlying44
  have hIH : (Try.prog.info? 44).map (·.size) = some 32 := by kernel_rfl
  have lsh : (bcs (sha xss.flatten)).length = 32 := by rw [bcs_length, sha_len]
  have lz32 : (bcs zero32).length = 32 := rfl
  have KR := hide (Blk.new w 44 (bcs zero32))
  have B0 := hide (show Below w.heap.size w (w.alloc (.cells (bcs zero32).toArray 44)) from (Below.refl _ w).alloc (Nat.le_refl _) _)
  have HX := hide hX
  have HS := hide hshort
  have HL := hide hlong
  have HN := hide hn
  clear hX hshort hlong hn
  go_enter Try.func90, Try.ntmps90
  go_wp2_with (refine wpList_alloc_agg rfl 44 rfl (bcs zero32) zero32_info ?_; simp only [Act.put, List.setIfInBounds_toArray, List.set_cons_zero, List.set_cons_succ, World.size_alloc])
  obtain ⟨w1, hw1⟩ : ∃ w1, w1 = w.alloc (.cells (bcs zero32).toArray 44) := ⟨_, rfl⟩
  rw [← hw1] at KR B0 ⊢
  clear hw1
  refine (HNew_any w1).mono ?_
  rintro e w2 ⟨g, rfl, hg, hb2, hG⟩
  go_wp2_with fail
  refine (HAdd_any w1 w2 g A n c xss hb2 hg hG (HX.out.below B0.out) HS.out HL.out HN.out).mono ?_
  rintro e w3 ⟨rfl, A3, m3, c3, h3⟩
  go_wp2_with fail
  refine (HSum_any w1 w3 g A3 m3 c3 xss.flatten h3 HL.out).mono ?_
  rintro e w4 ⟨rfl, hb4⟩
  have hb14 : Below w1.heap.size w1 w4 := Below.then_ h3.below hb4
  have K4 := hide (KR.out.under hb14)
  go_wp2_with (refine wpList_store_blk rfl 44 _ _ rfl w.heap.size 0 44 (bcs zero32) (bcs (sha xss.flatten)) (by rfl) (by rfl) K4.out (by rw [lz32, lsh]; decide) (by rw [hIH, lsh]) (bcs_one _) ?_; intro w9 o9 z9 b9; simp only [Act.put])
  rw [lay_all (bcs zero32) _ (by rw [lz32, lsh])] at b9
  refine bodyPost_ret (results_cell_blk rfl _ _ w.heap.size 44 _ _ (by rfl) b9 hHH.out rfl (by rw [hIH, lsh])) rfl ⟨rfl, ?_⟩
  have hbw := Below.then_ B0.out hb14
  exact hbw.trans (o9.below hbw.size (fun i hi e => by have h9 : i = w.heap.size := e; omega))
set_option maxHeartbeats 4000000 in
set_option maxRecDepth 100000 in
theorem Twice_any (w : World) (A : Option Addr) (n c : Nat) (xss : List (List Int)) (hX : Byss w A n xss) (hshort : xss.dropLast.flatten.length < 64) (hlong : xss.flatten.length ≤ 100000000) (hn : n ≤ 1000000) :
    Calls Try.prog 79 #[.slice A n c] w fun e w' => e = .returned (.agg (bcs (sha2 xss.flatten)).toArray) ∧ Below w.heap.size w w' := by
  have hHH := hide Try.underlying44
  have hIH : (Try.prog.info? 44).map (·.size) = some 32 := by kernel_rfl
  have lsh : (bcs (sha xss.flatten)).length = 32 := by rw [bcs_length, sha_len]
  have lsh2 : (bcs (sha2 xss.flatten)).length = 32 := by rw [bcs_length, sha2_len]
  have lz32 : (bcs zero32).length = 32 := rfl
  have KR := hide (Blk.new w 44 (bcs zero32))
  have B0 := hide (show Below w.heap.size w (w.alloc (.cells (bcs zero32).toArray 44)) from (Below.refl _ w).alloc (Nat.le_refl _) _)
  have HX := hide hX
  have HS := hide hshort
  have HL := hide hlong
  have HN := hide hn
  clear hX hshort hlong hn
  go_enter Try.func79, Try.ntmps79
  go_wp2_with (refine wpList_alloc_agg rfl 44 rfl (bcs zero32) zero32_info ?_; simp only [Act.put, List.setIfInBounds_toArray, List.set_cons_zero, List.set_cons_succ, World.size_alloc])
  obtain ⟨w1, hw1⟩ : ∃ w1, w1 = w.alloc (.cells (bcs zero32).toArray 44) := ⟨_, rfl⟩
  rw [← hw1] at KR B0 ⊢
  clear hw1
  refine (DSum_any w1 A n c xss (HX.out.below B0.out) HS.out HL.out HN.out).mono ?_
  rintro e w2 ⟨rfl, hb2⟩
  have K2 := hide (Blk.new w2 44 (bcs zero32))
  have hb22 : Below w2.heap.size w2 (w2.alloc (.cells (bcs zero32).toArray 44)) := (Below.refl _ w2).alloc (Nat.le_refl _) _
  go_wp2_with (first
    | (refine wpList_alloc_agg rfl 44 rfl (bcs zero32) zero32_info ?_; simp only [Act.put, List.setIfInBounds_toArray, List.set_cons_zero, List.set_cons_succ, World.size_alloc])
    | (refine wpList_store_blk rfl 44 _ _ rfl w2.heap.size 0 44 (bcs zero32) (bcs (sha xss.flatten)) (by rfl) (by rfl) K2.out (by rw [lz32, lsh]; decide) (by rw [hIH, lsh]) (bcs_one _) ?_; intro w3 o3 z3 b3; simp only [Act.put]))
  rw [lay_all (bcs zero32) _ (by rw [lz32, lsh])] at b3
  have hz : w3.heap.size = w2.heap.size + 1 := by rw [z3]; simp
  have hb3 : Below w2.heap.size w2 w3 := hb22.trans (o3.below (by simp) (fun i hi e => by have h9 : i = w2.heap.size := e; omega))
  have hb13 := Below.then_ hb2 hb3
  have HBY := hide (Byss.one w3 w3 22 (some ⟨w2.heap.size, 0, none⟩) 32 32 (sha xss.flatten) (by have := Bys.of_blk b3 (sha_byt _); rwa [sha_len] at this) (Nat.le_refl _) (Below.refl _ _))
  have hb35 : Below w3.heap.size w3 (w3.alloc (.cells #[.slice (some ⟨w2.heap.size, 0, none⟩) 32 32] 22)) := (Below.refl _ w3).alloc (Nat.le_refl _) _
  rw [hz] at HBY
  refine (DSum_any _ _ 1 1 [sha xss.flatten] HBY.out (by simp) (by simp [sha_len]) (by decide)).mono ?_
  rintro e w5 ⟨rfl, hb5⟩
  have hf1 : [sha xss.flatten].flatten = sha xss.flatten := by simp
  rw [hf1]
  have hb15 := hide (Below.then_ hb13 (Below.then_ hb35 hb5))
  have K5 := hide (KR.out.under hb15.out)
  go_wp2_with (refine wpList_store_blk rfl 44 _ _ rfl w.heap.size 0 44 (bcs zero32) (bcs (sha2 xss.flatten)) (by rfl) (by rfl) K5.out (by rw [lz32, lsh2]; decide) (by rw [hIH, lsh2]) (bcs_one _) ?_; intro w9 o9 z9 b9; simp only [Act.put])
  rw [lay_all (bcs zero32) _ (by rw [lz32, lsh2])] at b9
  refine bodyPost_ret (results_cell_blk rfl _ _ w.heap.size 44 _ _ (by rfl) b9 hHH.out rfl (by rw [hIH, lsh2])) rfl ⟨rfl, ?_⟩
  have hbw := Below.then_ B0.out hb15.out
  exact hbw.trans (o9.below hbw.size (fun i hi e => by have h9 : i = w.heap.size := e; omega))
end Go.Proofs.Ytfloclamdpageaa
