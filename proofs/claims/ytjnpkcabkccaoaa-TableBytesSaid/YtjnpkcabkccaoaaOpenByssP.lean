import Derived.Test.YtjnpkcabkccaoaaPk2
import Derived.Test.YtjnpkcabkccaoaaPk1
/-
  Slices of bytes, out of a reading.
-/
namespace Go.Proofs.Ytjnpkcabkccaoaa
open Go.RowKit

theorem list_upto {α : Type} {p : Nat → α → Prop} : ∀ (n : Nat), (∀ i, i < n → ∃ a, p i a) → ∃ xs : List α, xs.length = n ∧ ∀ (i : Nat) (a : α), xs[i]? = some a → p i a
  | 0, _ => ⟨[], rfl, fun i a h => by simp at h⟩
  | n + 1, h => by
    obtain ⟨xs, hl, hx⟩ := list_upto n (fun i hi => h i (by omega))
    obtain ⟨a, ha⟩ := h n (by omega)
    refine ⟨xs ++ [a], by simp [hl], fun i b hb => ?_⟩
    by_cases hi : i < n
    · rw [List.getElem?_append_left (by omega)] at hb
      exact hx i b hb
    · rw [List.getElem?_append_right (by omega)] at hb
      have : i = n := by
        have := (List.getElem?_eq_some_iff.1 hb).1
        simp at this; omega
      subst this
      simp [hl] at hb
      subst hb
      exact ha
/-- A slice of slices of bytes, out of a reading. -/
theorem byss_of_reading {H : Type} {enc : TypeId × Value → H} {W : World} {fuel : Nat} {V : Value} {x : DataW H × List MemPlace} (h : DataW.trod enc Try.prog W 0 (fun _ => true) true fuel 87 [V] = some x) :
    ∃ (A : Option Addr) (n c : Nat) (xss : List (List Int)), V = .slice A n c ∧ Byss W A n xss ∧ n ≤ c ∧ c ≤ maxLen := by
  obtain ⟨A, n, c, hV, hn, hc, hr⟩ := rows_of_cells Try.underlying87 1 (by kernel_rfl) (by decide) h
  rcases Nat.eq_zero_or_pos n with h0 | h0
  · subst h0
    exact ⟨A, 0, c, [], hV, ⟨rfl, fun h => absurd h (by omega)⟩, hn, hc⟩
  · obtain ⟨b, off, hA, hi⟩ := hr h0
    have hex : ∀ i, i < n → ∃ bs : List Int, True ∧ ∃ A' n' c', W.cell? ⟨b, off + i, none⟩ = some (.slice A' n' c') ∧ Bys W A' n' bs ∧ n' ≤ c' := fun i hin => by
      obtain ⟨cs', m, y, hl, hcell, ht⟩ := hi i hin
      match cs', hl with
      | [c0], _ =>
        obtain ⟨A', k, c', bs, rfl, hb, hk, _⟩ := bys_of_cells Try.underlying28 Try.underlying5 (by kernel_rfl) ht
        exact ⟨bs, trivial, A', k, c', by simpa using hcell 0 _ rfl, hb, hk⟩
    obtain ⟨xs, hxl, hxs⟩ := list_upto n hex
    exact ⟨A, n, c, xs, hV, ⟨hxl, fun _ => ⟨b, off, hA, fun j bs hj => (hxs j bs hj).2⟩⟩, hn, hc⟩
end Go.Proofs.Ytjnpkcabkccaoaa
