/-
  The document's Right.
-/
import Derived.Test.YtfloclamdpageaaCoinF
import Derived.Test.YtfloclamdpageaaPure09C
namespace Go.Proofs.Ytfloclamdpageaa
open Go.RowKit

instance (c : CoinD) : Decidable c.right := by unfold CoinD.right; infer_instance
def rightB (c : CoinD) : Bool := decide c.right
theorem rightB_iff (c : CoinD) : rightB c = true ↔ c.right := by unfold rightB; simp
theorem right_eq (v : Int) (xs : List Int) (n : Nat) (hn : xs.length = n) (h : Int) (p : Bool) : rightB ⟨⟨v, xs⟩, h, p⟩ = (moneyB v && (decide ((n : Int) ≤ 2000) && (decide (0 ≤ h) && decide (h ≤ 1000000000)))) := by
  unfold rightB moneyB CoinD.right
  simp only [hn]
  by_cases h1 : money v <;> by_cases h2 : n ≤ 2000 <;> by_cases h3 : 0 ≤ h <;> by_cases h4 : h ≤ 1000000000 <;> simp [h1, h2, h3, h4] <;> omega
set_option maxHeartbeats 1000000 in
set_option maxRecDepth 100000 in
theorem Right_any (w : World) (a : CoinV) (hl : a.out.bs.length = a.out.n) :
    Calls Try.prog 16 #[a.val] w fun e w' => e = .returned (.bool (rightB a.d)) ∧ Below w.heap.size w w' := by
  obtain ⟨⟨v, A, n, c, xs⟩, h, p⟩ := a
  simp only at hl
  have hb1 := hide (show Below w.heap.size w (w.alloc (.cells #[.int .i64 v, .slice A n c, .int .i64 h, .bool p] 26)) from below_alloc (Below.refl _ _) _)
  have E := hide (show rightB (CoinV.d ⟨⟨v, A, n, c, xs⟩, h, p⟩) = _ from right_eq v xs n hl h p)
  have BA := Blk.new w 26 [.int .i64 v, .slice A n c, .int .i64 h, .bool p]
  have k0 := BA.c0
  have k1 := BA.c1
  have k2 := BA.c2
  clear BA hl
  show Calls Try.prog 16 #[.agg #[.int .i64 v, .slice A n c, .int .i64 h, .bool p]] w _
  generalize hM : moneyB v = M at E
  go_enter Try.func16, Try.ntmps16
  go_wp2_with fail
  refine (refmoney_any _ v).mono ?_
  rintro e w1 ⟨rfl, rfl⟩
  rw [hM]
  cases M
  · go_wp2
    go_ret
    exact ⟨by rw [E.out]; rfl, hb1.out⟩
  · by_cases h2 : (n : Int) ≤ 2000
    · by_cases h3 : 0 ≤ h
      · have G := hide (And.intro h2 h3)
        go_wp2
        go_ret
        exact ⟨by rw [E.out]; simp [G.out.1, G.out.2], hb1.out⟩
      · have G := hide (And.intro h2 h3)
        have h5 : h < 0 := by omega
        clear h3
        go_wp2
        go_ret
        exact ⟨by have hG := G.out; rw [E.out]; simp <;> omega, hb1.out⟩
    · have G := hide h2
      have h5 : 2000 < (n : Int) := by omega
      clear h2
      go_wp2
      go_ret
      exact ⟨by have hG := G.out; rw [E.out]; simp <;> omega, hb1.out⟩
end Go.Proofs.Ytfloclamdpageaa
