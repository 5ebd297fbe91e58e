import Derived.Test.YtbpmcnfmgaolnaaWaitingRunsP
/-
  bynamelaw22.WaitingRuns: for all rows.
-/
namespace Go.Proofs.Ytbpmcnfmgaolnaa
open Go.RowKit

set_option maxHeartbeats 2000000 in
set_option maxRecDepth 100000 in
theorem wruns_skip (w : World) (A : Option Addr) (n c : Nat) (hn : ¬ n ≤ 100) :
    Calls Try.prog 3 #[.slice A n c] w fun e w' => e = .returned (.bool true) ∧ Below w.heap.size w w' := by
  have n9 : ¬ (n : Int) ≤ 100 := by omega
  clear hn
  go_enter Try.func3, Try.ntmps3
  go_wp2_with (go_at_call 15; refine (waitAlive_any _).mono ?_; rintro e w1 ⟨rfl, b1⟩; have B1 := hide b1; clear b1)
  go_ret
  exact ⟨rfl, B1.out⟩
theorem wruns_any (w : World) (A : Option Addr) (n c : Nat) (xs : List WActV) (hA : WActsIn w A n xs) :
    Calls Try.prog 3 #[.slice A n c] w fun e w' => e = .returned (.bool true) ∧ Below w.heap.size w w' := by
  by_cases h : n ≤ 100
  · exact runs_main w A n c xs hA h
  · exact wruns_skip w A n c h
end Go.Proofs.Ytbpmcnfmgaolnaa
