/-
  Outputs in memory, as they came in.
-/
import Derived.Test.YtfloclamdpageaaCoinD
import Derived.Test.YtfloclamdpageaaOpen
namespace Go.Proofs.Ytfloclamdpageaa
open Go.RowKit

theorem list_upto {α : Type} {p : Nat → α → Prop} : ∀ (n : Nat), (∀ i, i < n → ∃ a, p i a) → ∃ xs : List α, xs.length = n ∧ ∀ (i : Nat) (a : α), xs[i]? = some a → p i a
  | 0, _ => ⟨[], rfl, fun i a h => by simp at h⟩
  | n + 1, h => by
    obtain ⟨xs, hl, hx⟩ := list_upto n (fun i hi => h i (by omega))
    obtain ⟨a, ha⟩ := h n (by omega)
    refine ⟨xs ++ [a], by simp [hl], fun i b hb => ?_⟩
    by_cases hi : i < n
    · rw [List.getElem?_append_left (by omega)] at hb
      exact hx i b hb
    · rw [List.getElem?_append_right (by omega)] at hb
      have : i = n := by
        have := (List.getElem?_eq_some_iff.1 hb).1
        simp at this; omega
      subst this
      simp [hl] at hb
      subst hb
      exact ha
open Go.WideShapes Go.ChangeShapes in
theorem rows_of_reading {H : Type} {enc : TypeId × Value → H} {P : Program} {W : World} {fuel : Nat} {V : Value} {x : DataW H × List MemPlace} {t e : TypeId} {α : Type} {cells : α → List Value} {k : Nat} {fine : World → α → Prop}
    (ht : P.underlying t = some (.slice e)) (hs : P.cellsOf e = k) (h0 : 0 < k)
    (hc : ∀ (m : Nat) (cs : List Value) (y : DataW H × List MemPlace), DataW.trod enc P W 0 (fun _ => true) true m e cs = some y → cs.length = k → ∃ a : α, cs = cells a ∧ fine W a)
    (h : DataW.trod enc P W 0 (fun _ => true) true fuel t [V] = some x) :
    ∃ (A : Option Addr) (n c : Nat) (xs : List α), V = .slice A n c ∧ RowsIn cells k fine W A n xs ∧ n ≤ c ∧ c ≤ maxLen := by
  obtain ⟨A, n, c, hV, hn, hcm, hr⟩ := rows_of_cells ht k hs h0 h
  rcases Nat.eq_zero_or_pos n with hz | hz
  · subst hz
    exact ⟨A, 0, c, [], hV, RowsIn.nil _ _ _ _ _, hn, hcm⟩
  · obtain ⟨b, off, hA, hi⟩ := hr hz
    have hex : ∀ i, i < n → ∃ a : α, fine W a ∧ W.rangeAt b (off + i * k) (cells a) := fun i hin => by
      obtain ⟨cs', m, y, hl, hcell, ht⟩ := hi i hin
      obtain ⟨a, rfl, hf⟩ := hc m cs' y ht hl
      exact ⟨a, hf, fun j v hv => by have := hcell j v hv; rwa [Nat.add_assoc] at this ⊢⟩
    obtain ⟨xs, hxl, hxs⟩ := list_upto n hex
    refine ⟨A, n, c, xs, hV, ⟨hxl, fun a ha => ?_, fun _ => ⟨b, off, hA, fun i a ha => (hxs i a ha).2⟩⟩, hn, hcm⟩
    obtain ⟨i, hi⟩ := List.mem_iff_getElem?.1 ha
    exact (hxs i a hi).1
open Go.WideShapes Go.ChangeShapes in
theorem out_of_cells {H : Type} {enc : TypeId × Value → H} {W : World} {m : Nat} {cs : List Value} {y : DataW H × List MemPlace} (h : DataW.trod enc Try.prog W 0 (fun _ => true) true m 24 cs = some y) (hl : cs.length = 2) :
    ∃ a : OutV, cs = a.cells ∧ a.Fine W := by
  match cs, hl with
  | [c0, c1], _ =>
    obtain ⟨xs, n, _, _, _, hlen, hg⟩ := DataW.trod_struct Try.underlying24 h
    obtain ⟨y0, h0⟩ := one_field hg hlen 0 _ c0 rfl (by kernel_rfl) rfl
    obtain ⟨y1, h1⟩ := one_field hg hlen 1 _ c1 rfl (by kernel_rfl) rfl
    obtain ⟨n0, rfl, w0⟩ := int_of_cells Try.underlying2 h0
    obtain ⟨A, k, c, bs, rfl, hB, hk, _⟩ := bys_of_cells Try.underlying22 Try.underlying5 (by kernel_rfl) h1
    exact ⟨⟨n0, A, k, c, bs⟩, rfl, ⟨wf64 w0, hB, hk⟩⟩
open Go.WideShapes Go.ChangeShapes in
theorem outs_of_reading {H : Type} {enc : TypeId × Value → H} {W : World} {fuel : Nat} {V : Value} {x : DataW H × List MemPlace} (h : DataW.trod enc Try.prog W 0 (fun _ => true) true fuel 39 [V] = some x) :
    ∃ (A : Option Addr) (n c : Nat) (xs : List OutV), V = .slice A n c ∧ OutsIn W A n xs ∧ n ≤ c ∧ c ≤ maxLen :=
  rows_of_reading Try.underlying39 (by kernel_rfl) (by decide) (fun _ _ _ ht hl => out_of_cells ht hl) h
end Go.Proofs.Ytfloclamdpageaa
