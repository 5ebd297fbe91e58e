/-
  CoinRefs: the law's walk, for every input.
-/
import Derived.Test.YtfloclamdpageaaCoinRefs
namespace Go.Proofs.Ytfloclamdpageaa
open Go.RowKit

set_option maxHeartbeats 4000000 in
set_option maxRecDepth 100000 in
theorem coinrefs_all (w : World) (r : RefD) (hr0 : r.Fine) (o : OutV) (ho0 : o.Fine w) (A : Option Addr) (n c : Nat) (bs : List Int) (hB0 : Bys w A n bs) (hc0 : n ≤ c) :
    Calls Try.prog 7 #[.agg r.cells.toArray, .agg #[.int .i64 o.v, .slice o.A o.n o.c], .slice A n c] w fun e w' => e = .returned (.bool true) ∧ Below w.heap.size w w' := by
  by_cases h1 : (o.n : Int) ≤ 2500
  · by_cases h2 : (n : Int) ≤ 2500
    · exact coinrefs_any w r hr0 o ho0 A n c bs hB0 hc0 h2 h1
    · obtain ⟨ov, oA, on, oc, ob⟩ := o
      simp only at h1
      have h2' : 2500 < (n : Int) := by omega
      obtain ⟨w0, hw0⟩ : ∃ w0, w0 = (w.alloc (.cells r.cells.toArray 47)).alloc (.cells #[.int .i64 ov, .slice oA on oc] 24) := ⟨_, rfl⟩
      have O0 := hide (show Blk w0 (w.heap.size + 1) 24 [.int .i64 ov, .slice oA on oc] by rw [hw0]; exact Blk.new1 w _ _ _)
      have B0 := hide (show Below w.heap.size w w0 by rw [hw0]; exact below_alloc (below_alloc (Below.refl _ _) _) _)
      clear hr0 ho0 hB0 hc0 h2
      go_enter Try.func7, Try.ntmps7
      go_wp2_with fail
      rw [← hw0]
      clear hw0
      refine (coinalive_any _).mono ?_
      rintro e w1 ⟨rfl, b1⟩
      have B1 := hide (Below.then_ B0.out b1)
      have o1 := (Blk.under O0.out b1).c1
      clear b1
      go_wp2_with fail
      go_ret
      exact ⟨rfl, B1.out⟩
  · obtain ⟨ov, oA, on, oc, ob⟩ := o
    simp only at h1
    have h1' : 2500 < (on : Int) := by omega
    obtain ⟨w0, hw0⟩ : ∃ w0, w0 = (w.alloc (.cells r.cells.toArray 47)).alloc (.cells #[.int .i64 ov, .slice oA on oc] 24) := ⟨_, rfl⟩
    have O0 := hide (show Blk w0 (w.heap.size + 1) 24 [.int .i64 ov, .slice oA on oc] by rw [hw0]; exact Blk.new1 w _ _ _)
    have B0 := hide (show Below w.heap.size w w0 by rw [hw0]; exact below_alloc (below_alloc (Below.refl _ _) _) _)
    clear hr0 ho0 hB0 hc0 h1
    go_enter Try.func7, Try.ntmps7
    go_wp2_with fail
    rw [← hw0]
    clear hw0
    refine (coinalive_any _).mono ?_
    rintro e w1 ⟨rfl, b1⟩
    have B1 := hide (Below.then_ B0.out b1)
    have o1 := (Blk.under O0.out b1).c1
    clear b1
    go_wp2_with fail
    go_ret
    exact ⟨rfl, B1.out⟩
end Go.Proofs.Ytfloclamdpageaa
