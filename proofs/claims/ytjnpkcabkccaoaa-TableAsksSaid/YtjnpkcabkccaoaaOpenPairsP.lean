import Derived.Test.YtjnpkcabkccaoaaOpenPairP
import Derived.Test.YtjnpkcabkccaoaaPk21
/-
  Batches of pairs in memory, as they came in.
-/
namespace Go.Proofs.Ytjnpkcabkccaoaa
open Go.RowKit

open Go.WideShapes Go.ChangeShapes in
theorem batches_of_reading {H : Type} {enc : TypeId × Value → H} {W : World} {fuel : Nat} {V : Value} {x : DataW H × List MemPlace} (h : DataW.trod enc Try.prog W 0 (fun _ => true) true fuel 113 [V] = some x) :
    ∃ (A : Option Addr) (n c : Nat) (xs : List BatchV), V = .slice A n c ∧ BatchesIn W A n xs ∧ n ≤ c ∧ c ≤ maxLen :=
  prows_of_reading Try.underlying113 (by kernel_rfl) (by decide) (fun _ cs _ ht hl => by
    match cs, hl with
    | [c0], _ =>
      obtain ⟨A, n, c, xs, rfl, hX, hc, _⟩ := pairs_of_reading ht
      exact ⟨⟨A, n, c, xs⟩, rfl, ⟨hX, hc⟩⟩) h
end Go.Proofs.Ytjnpkcabkccaoaa
