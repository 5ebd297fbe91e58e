import Derived.Test.YtjnpkcabkccaoaaPk19
import Derived.Test.YtjnpkcabkccaoaaPk20
/-
  table: batches as they came in; what is told of keys, in plain.
-/
namespace Go.Proofs.Ytjnpkcabkccaoaa
open Go.RowKit

/-- A batch as a value of a slice. -/
structure BatchV where
  A : Option Addr
  n : Nat
  c : Nat
  xs : List PairV
def BatchV.cells (v : BatchV) : List Value := [.slice v.A v.n v.c]
structure BatchV.Fine (w : World) (v : BatchV) : Prop where
  in_ : PairsIn w v.A v.n v.xs
  cap : v.n ≤ v.c
abbrev BatchesIn (w : World) (A : Option Addr) (n : Nat) (xs : List BatchV) : Prop := RowsIn BatchV.cells 1 BatchV.Fine w A n xs
theorem BatchesIn.below' {w w' : World} {A : Option Addr} {n : Nat} {xs : List BatchV} (h : BatchesIn w A n xs) (hb : Below w.heap.size w w') : BatchesIn w' A n xs := h.below hb fun _ h => ⟨h.in_.below' hb, h.cap⟩
/-! ### What is told, in plain -/
theorem inRange_nil (p : PairD) : inRange [] [] p = true := by
  have h : ∀ k : List Int, ¬ lex k [] < 0 := fun k => by cases k <;> simp [lex]
  simp [inRange, preB, h]
theorem inRange_pre (pre : List Int) (p : PairD) : inRange pre [] p = preB pre p.key := by
  have h : ∀ k : List Int, ¬ lex k [] < 0 := fun k => by cases k <;> simp [lex]
  simp [inRange, h]
theorem range_whole {l : List PairD} (h : Sorted l) (hl : l.length ≤ 1000) : rangeP l [] [] 1000 = l := by
  rw [range_eq h, List.filter_eq_self.2 fun p _ => inRange_nil p]
  exact List.take_of_length_le hl
def manyP (l : List PairD) (pre : List Int) : Nat := l.countP fun p => preB pre p.key
theorem range_many {l : List PairD} (h : Sorted l) (pre : List Int) (hl : l.length ≤ 1000) : (rangeP l pre [] 1000).length = manyP l pre ∧ (rangeP l pre [] 1).length = min (manyP l pre) 1 := by
  have hf : ∀ m : Int, rangeP l pre [] m = (l.filter fun p => preB pre p.key).take m.toNat := fun m => by
    rw [range_eq h]
    congr 1
    apply List.filter_congr
    intro p _
    exact inRange_pre pre p
  have hle : manyP l pre ≤ l.length := List.countP_le_length
  rw [hf, hf, List.length_take, List.length_take, ← List.countP_eq_length_filter]
  exact ⟨by show min 1000 (manyP l pre) = _; omega, by show min 1 (manyP l pre) = _; omega⟩
theorem many_step {l : List PairD} {j : Nat} {p : PairD} (pre : List Int) (h : l[j]? = some p) : manyP (l.take (j + 1)) pre = manyP (l.take j) pre + if preB pre p.key = true then 1 else 0 := by
  rw [List.take_add_one, h, manyP, List.countP_append]
  simp [manyP, List.countP_cons]
/-- Each of them is found. -/
theorem found_own {l : List PairD} (h : Sorted l) {j : Nat} {p : PairD} (hp : l[j]? = some p) : placeP l p.key = j ∧ foundP l p.key = true := by
  have hj := (List.getElem?_eq_some_iff.1 hp).1
  have h1 : placeP l p.key = j := by
    have a1 : ¬ j < placeP l p.key := fun h9 => by
      have := (placeP_lt h j p hp).2 h9
      rw [lex_self] at this
      omega
    rcases Nat.lt_or_ge (placeP l p.key) j with h2 | h2
    · exfalso
      obtain ⟨q, hq⟩ : ∃ q, l[placeP l p.key]? = some q := ⟨_, List.getElem?_eq_getElem (by omega)⟩
      have h3 : ¬ lex q.key p.key < 0 := fun h9 => by have := (placeP_lt h _ q hq).1 h9; omega
      have h4 : lex q.key p.key < 0 := by
        have h5 := (List.pairwise_iff_getElem.1 h) (placeP l p.key) j (by omega) hj h2
        obtain ⟨_, e1⟩ := List.getElem?_eq_some_iff.1 hq
        obtain ⟨_, e2⟩ := List.getElem?_eq_some_iff.1 hp
        rw [e1, e2] at h5
        exact h5
      exact h3 h4
    · omega
  refine ⟨h1, ?_⟩
  unfold foundP
  rw [h1, hp]
  simp [lex_self]
theorem merge_keep (T : TableD) (d : Dev) (l : List PairD) : (applyT d T l).2.1.pairs.length ≤ T.pairs.length + l.length := by
  have h := merge_len T.pairs l
  unfold applyT
  split
  · show T.pairs.length ≤ _; omega
  · split
    · show T.pairs.length ≤ _; omega
    · split
      · show T.pairs.length ≤ _; omega
      · show (if _ then _ else _ : List PairD).length ≤ _
        split <;> omega
theorem open_ok (n : Int) (h : fitsB (newDev n) 1 = true) : ∃ (d1 : Dev) (l1 : LogD), openT (newDev n) = (d1, some ⟨l1, []⟩, 0) := by
  have hb0 : (tbytes []).1 = [0] := by decide
  obtain ⟨d1, l1, e1, _⟩ := begin_stand (d := newDev n) (l := openAt 1) (b := (tbytes []).1) (new_calm (newDev_good n)) (by decide) (by rw [hb0]; exact h) (by rw [new_top]; decide)
  refine ⟨d1, l1, ?_⟩
  rw [openT, told_new, new_open]
  simp only
  rw [e1]
  simp
theorem fits_300 : fitsB (newDev 300) 1 = true := by
  rw [fitsB, new_room]
  decide
end Go.Proofs.Ytjnpkcabkccaoaa
