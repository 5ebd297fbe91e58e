import Derived.Test.YtjnpkcabkccaoaaPk13
import Derived.Test.YtjnpkcabkccaoaaOpenByssP
/-
  Pairs in memory, as they came in.
-/
namespace Go.Proofs.Ytjnpkcabkccaoaa
open Go.RowKit

open Go.WideShapes Go.ChangeShapes in
theorem prows_of_reading {H : Type} {enc : TypeId × Value → H} {P : Program} {W : World} {fuel : Nat} {V : Value} {x : DataW H × List MemPlace} {t e : TypeId} {α : Type} {cells : α → List Value} {k : Nat} {fine : World → α → Prop}
    (ht : P.underlying t = some (.slice e)) (hs : P.cellsOf e = k) (h0 : 0 < k)
    (hc : ∀ (m : Nat) (cs : List Value) (y : DataW H × List MemPlace), DataW.trod enc P W 0 (fun _ => true) true m e cs = some y → cs.length = k → ∃ a : α, cs = cells a ∧ fine W a)
    (h : DataW.trod enc P W 0 (fun _ => true) true fuel t [V] = some x) :
    ∃ (A : Option Addr) (n c : Nat) (xs : List α), V = .slice A n c ∧ RowsIn cells k fine W A n xs ∧ n ≤ c ∧ c ≤ maxLen := by
  obtain ⟨A, n, c, hV, hn, hcm, hr⟩ := rows_of_cells ht k hs h0 h
  rcases Nat.eq_zero_or_pos n with hz | hz
  · subst hz
    exact ⟨A, 0, c, [], hV, RowsIn.nil _ _ _ _ _, hn, hcm⟩
  · obtain ⟨b, off, hA, hi⟩ := hr hz
    have hex : ∀ i, i < n → ∃ a : α, fine W a ∧ W.rangeAt b (off + i * k) (cells a) := fun i hin => by
      obtain ⟨cs', m, y, hl, hcell, ht⟩ := hi i hin
      obtain ⟨a, rfl, hf⟩ := hc m cs' y ht hl
      exact ⟨a, hf, fun j v hv => by have := hcell j v hv; rwa [Nat.add_assoc] at this ⊢⟩
    obtain ⟨xs, hxl, hxs⟩ := list_upto n hex
    refine ⟨A, n, c, xs, hV, ⟨hxl, fun a ha => ?_, fun _ => ⟨b, off, hA, fun i a ha => (hxs i a ha).2⟩⟩, hn, hcm⟩
    obtain ⟨i, hi⟩ := List.mem_iff_getElem?.1 ha
    exact (hxs i a hi).1
open Go.WideShapes Go.ChangeShapes in
theorem pair_of_cells {H : Type} {enc : TypeId × Value → H} {W : World} {m : Nat} {cs : List Value} {y : DataW H × List MemPlace} (h : DataW.trod enc Try.prog W 0 (fun _ => true) true m 100 cs = some y) (hl : cs.length = 3) :
    ∃ a : PairV, cs = a.cells ∧ a.Fine W := by
  match cs, hl with
  | [c0, c1, c2], _ =>
    obtain ⟨xs, n, _, _, _, hlen, hg⟩ := DataW.trod_struct Try.underlying100 h
    obtain ⟨y0, h0⟩ := one_field hg hlen 0 _ c0 rfl (by kernel_rfl) rfl
    obtain ⟨y1, h1⟩ := one_field hg hlen 1 _ c1 rfl (by kernel_rfl) rfl
    obtain ⟨y2, h2⟩ := one_field hg hlen 2 _ c2 rfl (by kernel_rfl) rfl
    obtain ⟨A, k, c, bs, rfl, hB, hk, _⟩ := bys_of_cells Try.underlying28 Try.underlying5 (by kernel_rfl) h0
    obtain ⟨A', k', c', bs', rfl, hB', hk', _⟩ := bys_of_cells Try.underlying28 Try.underlying5 (by kernel_rfl) h1
    obtain ⟨b, hb, _⟩ := DataW.trod_bool Try.underlying4 h2
    obtain rfl : c2 = .bool b := by simpa using hb
    exact ⟨⟨A, k, c, bs, A', k', c', bs', b⟩, rfl, ⟨hB, hk, hB', hk'⟩⟩
open Go.WideShapes Go.ChangeShapes in
theorem pairs_of_reading {H : Type} {enc : TypeId × Value → H} {W : World} {fuel : Nat} {V : Value} {x : DataW H × List MemPlace} (h : DataW.trod enc Try.prog W 0 (fun _ => true) true fuel 94 [V] = some x) :
    ∃ (A : Option Addr) (n c : Nat) (xs : List PairV), V = .slice A n c ∧ PairsIn W A n xs ∧ n ≤ c ∧ c ≤ maxLen :=
  prows_of_reading Try.underlying94 (by kernel_rfl) (by decide) (fun _ _ _ ht hl => pair_of_cells ht hl) h
end Go.Proofs.Ytjnpkcabkccaoaa
