/-
  A region's end that only reads, behind a beginning that makes memory: one walk in the text's order serves for what is left.
-/
import Derived.Test.YtfloclamdpageaaBase
import Derived.OrdersHeld
import Derived.Deep.Quiet
namespace Go.Proofs.Ytfloclamdpageaa
open Go.RowKit

section
variable {P : Program} {ops : Array Oper} {Q : Exit → Act → World → Prop} {md : Region.Mode} {S C : World → Prop}
theorem held_of_quiet (hCS : ∀ w, C w → S w) : ∀ (fuel : Nat) (listed : Array Bool) (a : Act) (w : World), C w → wpAnyQ P md ops C (fun a' => ∀ w', C w' → Q .normal a' w') fuel listed a → wpAnyH P md ops Q S fuel listed a w
  | 0, _, _, _, hw, h => ⟨h.1, h.2 _ hw⟩
  | fuel + 1, _, _, _, hw, h => ⟨fun h0 => h.1 h0 _ hw, fun i hi => wpOp_of_qOp hw (fun a' w' hw' hK => ⟨hCS w' hw', held_of_quiet hCS fuel _ a' w' hw' hK⟩) (h.2 i hi)⟩
/-- What is left of a region, from operation k on, only reads. -/
theorem held_lex {fuel k : Nat} {listed : Array Bool} {a : Act} {w : World} (l : List Oper) (hl : ops.toList.drop k = l) (hs : Region.noSelect ops = true) (hf : l.length = fuel) (hB : Region.lexFrom md ops l.length k listed = true)
    (hS : ∀ n, S (w.drewN n)) (h : wpQuiet P ops (fun w' => ∃ n, w' = w.drewN n) (fun a' => ∀ w', (∃ n, w' = w.drewN n) → Q .normal a' w') l a) : wpAnyH P md ops Q S fuel listed a w := by
  subst hf
  refine held_of_quiet (C := fun w' => ∃ n, w' = w.drewN n) (fun w' ⟨n, e⟩ => e ▸ hS n) _ _ _ _ ⟨0, rfl⟩ ?_
  exact wpAnyQ_lex hs l k listed a (fun j => by rw [← hl]; simp) hB h
end
theorem only_drewN {F : Nat → Prop} {w v : World} (h : Only F w v) (n : Nat) : Only F w (v.drewN n) := h.drewN n
theorem below_drewN' {w v : World} (h : Below w.heap.size w v) (n : Nat) : Below w.heap.size w (v.drewN n) := ⟨h.os, h.tape, h.output, h.size, h.block⟩
end Go.Proofs.Ytfloclamdpageaa
