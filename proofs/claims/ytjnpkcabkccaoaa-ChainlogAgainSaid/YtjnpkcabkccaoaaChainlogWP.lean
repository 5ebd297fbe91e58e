import Derived.Test.YtjnpkcabkccaoaaPk12
/-
  chainlog: a log on a device, both made by the call.
-/
namespace Go.Proofs.Ytjnpkcabkccaoaa
open Go.RowKit

/-- A log on a device, both new since w0. -/
structure LogW (w0 W : World) (g b : Nat) (F : Nat → Prop) (d : Dev) (l : LogD) : Prop where
  dev : DevRep W b F d
  log : LogAt W g b l
  ng : ¬ F g
  gl : g < W.heap.size
  g0 : w0.heap.size ≤ g
  below : Below w0.heap.size w0 W
  fresh : ∀ i, F i → w0.heap.size ≤ i
theorem LogW.under {w0 W W' : World} {g b : Nat} {F : Nat → Prop} {d : Dev} {l : LogD} (h : LogW w0 W g b F d l) (hb : Below W.heap.size W W') : LogW w0 W' g b F d l :=
  ⟨h.dev.under hb, h.log.under hb, h.ng, Nat.lt_of_lt_of_le h.gl hb.size, h.g0, Below.then_ h.below hb, h.fresh⟩
theorem LogW.post {w0 W W' : World} {g b : Nat} {F : Nat → Prop} {d : Dev} {l : LogD} {r : Dev × LogD × Int} {e : Ending} (h : LogW w0 W g b F d l) (hp : LogPost W g b F r e W') :
    e = .returned (.int .i64 r.2.2) ∧ ∃ F', LogW w0 W' g b F' r.1 r.2.1 ∧ (∀ i, F' i → F i ∨ W.heap.size ≤ i) ∧ Only (fun i => F i ∨ i = g) W W' := by
  obtain ⟨h1, F', h2, h3, h4, h5, h6, h7, h8, h9⟩ := hp.out h.gl h.ng h.below h.fresh h.g0
  exact ⟨h1, F', ⟨h2, h3, h4, h5, h.g0, h6, h7⟩, h8, h9⟩
end Go.Proofs.Ytjnpkcabkccaoaa
