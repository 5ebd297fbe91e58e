/-
  Steps in memory, as they came in.
-/
import Derived.Test.YtjipgimnhkliaaaPieceL
import Derived.Test.YtjipgimnhkliaaaOpen
namespace Go.Proofs.Ytjipgimnhkliaaa
open Go.RowKit

theorem list_upto {α : Type} {p : Nat → α → Prop} : ∀ (n : Nat), (∀ i, i < n → ∃ a, p i a) → ∃ xs : List α, xs.length = n ∧ ∀ (i : Nat) (a : α), xs[i]? = some a → p i a
  | 0, _ => ⟨[], rfl, fun i a h => by simp at h⟩
  | n + 1, h => by
    obtain ⟨xs, hl, hx⟩ := list_upto n (fun i hi => h i (by omega))
    obtain ⟨a, ha⟩ := h n (by omega)
    refine ⟨xs ++ [a], by simp [hl], fun i b hb => ?_⟩
    by_cases hi : i < n
    · rw [List.getElem?_append_left (by omega)] at hb
      exact hx i b hb
    · rw [List.getElem?_append_right (by omega)] at hb
      have : i = n := by
        have := (List.getElem?_eq_some_iff.1 hb).1
        simp at this; omega
      subst this
      simp [hl] at hb
      subst hb
      exact ha
structure StepV where
  kind : Int
  size : Int
  most : Int
def StepV.cells (x : StepV) : List Value := [.int .i64 x.kind, .int .i64 x.size, .int .u64 x.most]
structure StepV.Fine (x : StepV) : Prop where
  size : x.size < 9223372036854775808
  most : 0 ≤ x.most
def Rd.step (r : Rd) (x : StepV) : Rd :=
  if x.kind = 0 then (r.fixed x.size).2 else if x.kind = 1 then (r.count x.most.toNat).2 else if x.kind = 2 then (r.raw x.size).2 else (r.text x.size).2
def StepsIn (w : World) (A : Option Addr) (n : Nat) (xs : List StepV) : Prop :=
  xs.length = n ∧ (∀ a ∈ xs, a.Fine) ∧ (0 < n → ∃ b off : Nat, A = some ⟨b, off, none⟩ ∧ ∀ (i : Nat) (a : StepV), xs[i]? = some a → w.rangeAt b (off + i * 3) a.cells)
theorem range_under {w w' : World} {b o : Nat} {cs : List Value} (h : w.rangeAt b o cs) (hb : Below w.heap.size w w') : w'.rangeAt b o cs := fun j v hv => cell_under hb (h j v hv)
theorem StepsIn.nil (w : World) (A : Option Addr) : StepsIn w A 0 [] := ⟨rfl, by simp, fun h => absurd h (by omega)⟩
theorem step_size : (Try.prog.info? 80).map (·.size) = some 3 := by kernel_rfl
theorem step_zero : (Try.prog.info? 80).map (·.zero) = some (some (.agg ([.int .i64 0, .int .i64 0, .int .u64 0] : List Value).toArray)) := by kernel_rfl
theorem step_one (a : StepV) : ∀ v ∈ a.cells, v.oneCell' = true := by
  intro v hv
  simp [StepV.cells] at hv
  rcases hv with rfl | rfl | rfl <;> rfl
open Go.WideShapes Go.ChangeShapes in
theorem step_of_cells {H : Type} {enc : TypeId × Value → H} {W : World} {m : Nat} {cs : List Value} {y : DataW H × List MemPlace} (h : DataW.trod enc Try.prog W 0 (fun _ => true) true m 80 cs = some y) (hl : cs.length = 3) :
    ∃ a : StepV, cs = a.cells ∧ a.Fine := by
  match cs, hl with
  | [c0, c1, c2], _ =>
    obtain ⟨xs, n, _, _, _, hlen, hg⟩ := DataW.trod_struct Try.underlying80 h
    obtain ⟨y0, h0⟩ := one_field hg hlen 0 _ c0 rfl (by kernel_rfl) rfl
    obtain ⟨y1, h1⟩ := one_field hg hlen 1 _ c1 rfl (by kernel_rfl) rfl
    obtain ⟨y2, h2⟩ := one_field hg hlen 2 _ c2 rfl (by kernel_rfl) rfl
    obtain ⟨n0, rfl, w0⟩ := int_of_cells Try.underlying3 h0
    obtain ⟨n1, rfl, w1⟩ := int_of_cells Try.underlying3 h1
    obtain ⟨n2, rfl, w2⟩ := int_of_cells Try.underlying59 h2
    exact ⟨⟨n0, n1, n2⟩, rfl, ⟨by have := (wf64 w1).2; show n1 < _; omega, (wfu64 w2).1⟩⟩
theorem steps_of_reading {H : Type} {enc : TypeId × Value → H} {W : World} {fuel : Nat} {V : Value} {x : DataW H × List MemPlace} (h : DataW.trod enc Try.prog W 0 (fun _ => true) true fuel 75 [V] = some x) :
    ∃ (A : Option Addr) (n c : Nat) (xs : List StepV), V = .slice A n c ∧ StepsIn W A n xs ∧ n ≤ c ∧ c ≤ maxLen := by
  obtain ⟨A, n, c, hV, hn, hc, hr⟩ := rows_of_cells Try.underlying75 3 (by kernel_rfl) (by decide) h
  rcases Nat.eq_zero_or_pos n with h0 | h0
  · subst h0
    exact ⟨A, 0, c, [], hV, StepsIn.nil _ _, hn, hc⟩
  · obtain ⟨b, off, hA, hi⟩ := hr h0
    have hex : ∀ i, i < n → ∃ a : StepV, a.Fine ∧ W.rangeAt b (off + i * 3) a.cells := fun i hin => by
      obtain ⟨cs', m, y, hl, hcell, ht⟩ := hi i hin
      obtain ⟨a, rfl, hf⟩ := step_of_cells ht hl
      exact ⟨a, hf, fun j v hv => by have := hcell j v hv; rwa [Nat.add_assoc] at this ⊢⟩
    obtain ⟨xs, hxl, hxs⟩ := list_upto n hex
    refine ⟨A, n, c, xs, hV, ⟨hxl, fun a ha => ?_, fun _ => ⟨b, off, hA, fun i a ha => (hxs i a ha).2⟩⟩, hn, hc⟩
    obtain ⟨i, hi⟩ := List.mem_iff_getElem?.1 ha
    exact (hxs i a hi).1
/-- A slice of slices of bytes, out of a reading. -/
theorem byss_of_reading {H : Type} {enc : TypeId × Value → H} {W : World} {fuel : Nat} {V : Value} {x : DataW H × List MemPlace} (h : DataW.trod enc Try.prog W 0 (fun _ => true) true fuel 65 [V] = some x) :
    ∃ (A : Option Addr) (n c : Nat) (xss : List (List Int)), V = .slice A n c ∧ Byss W A n xss ∧ n ≤ c ∧ c ≤ maxLen := by
  obtain ⟨A, n, c, hV, hn, hc, hr⟩ := rows_of_cells Try.underlying65 1 (by kernel_rfl) (by decide) h
  rcases Nat.eq_zero_or_pos n with h0 | h0
  · subst h0
    exact ⟨A, 0, c, [], hV, ⟨rfl, fun h => absurd h (by omega)⟩, hn, hc⟩
  · obtain ⟨b, off, hA, hi⟩ := hr h0
    have hex : ∀ i, i < n → ∃ bs : List Int, True ∧ ∃ A' n' c', W.cell? ⟨b, off + i, none⟩ = some (.slice A' n' c') ∧ Bys W A' n' bs ∧ n' ≤ c' := fun i hin => by
      obtain ⟨cs', m, y, hl, hcell, ht⟩ := hi i hin
      match cs', hl with
      | [c0], _ =>
        obtain ⟨A', k, c', bs, rfl, hb, hk, _⟩ := bys_of_cells Try.underlying24 Try.underlying5 (by kernel_rfl) ht
        exact ⟨bs, trivial, A', k, c', by simpa using hcell 0 _ rfl, hb, hk⟩
    obtain ⟨xs, hxl, hxs⟩ := list_upto n hex
    exact ⟨A, n, c, xs, hV, ⟨hxl, fun _ => ⟨b, off, hA, fun j bs hj => (hxs j bs hj).2⟩⟩, hn, hc⟩
end Go.Proofs.Ytjipgimnhkliaaa
