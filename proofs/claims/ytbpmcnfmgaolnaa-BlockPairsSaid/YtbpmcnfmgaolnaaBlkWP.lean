import Derived.Test.YtbpmcnfmgaolnaaPk23
/-
  Pairs of hashes and their root, plain; a row of two hashes.
-/
namespace Go.Proofs.Ytbpmcnfmgaolnaa
open Go.RowKit

theorem rootL_pair (a b : List Int) : (rootL [a, b]).1 = sha2 (a ++ b) := by
  rw [rootL_two [a, b] (by simp)]
  rfl
theorem rootL_next (l : List (List Int)) (h : 2 ≤ l.length) : (rootL l).1 = (rootL (nextL l)).1 := by rw [rootL_two l h]
theorem next_odd : ∀ (k : Nat) (l : List (List Int)) (x : List Int), l.length = 2 * k + 1 → l[2 * k]? = some x → nextL (l ++ [x]) = nextL l ∧ pairL (l ++ [x]) = true
  | 0, l, x, hl, hx => by
    match l, hl with
    | [a], _ =>
      simp at hx
      subst hx
      simp [nextL, pairL]
  | k + 1, l, x, hl, hx => by
    match l, hl with
    | a :: b :: r, hl =>
      have h := next_odd k r x (by simp at hl; omega) (by rw [show 2 * (k + 1) = 2 * k + 1 + 1 by omega] at hx; simpa using hx)
      simp [nextL, pairL, h.1, h.2]
def mkHs2 (parts : Array (Nat × Value)) : Sem Value := Instr.buildSlice 65 2 parts
theorem mkHs2_fold (parts : Array (Nat × Value)) : Instr.buildSlice 65 2 parts = mkHs2 parts := rfl
theorem run_buildSlice_two {P : Program} (t e : TypeId) (n : Nat) (hu : P.underlying t = some (.slice e)) (hs : (P.info? e).map (·.size) = some n) (hz : (P.info? e).map (fun i => i.zero.map (fun z => z.cells.size)) = some (some n))
    (hn : 0 < n) (hn' : n ≤ 1000) (va vb : List Value) (hva : va.length = n) (hvb : vb.length = n) (w : World) :
    (Instr.buildSlice t 2 #[(0, .agg va.toArray), (1, .agg vb.toArray)]).run P w = .ok (.slice (some ⟨w.heap.size, 0, none⟩) 2 2) (w.alloc (.cells (va ++ vb).toArray e)) := by
  obtain ⟨i, z, hi, hzz, zs, hzs, hzl⟩ := zero_parts hz
  have h1 : ∀ zs' : List Value, zs'.length = 2 * n → Instr.fill (fun i => some (i * n, n)) zs'.toArray [(0, .agg va.toArray), (1, .agg vb.toArray)] = some (va ++ vb).toArray := fun zs' h => by
    rw [fill_one _ zs' 0 (.agg va.toArray) va 0 _ (by simp [hva]) rfl (by omega), fill_one _ (lay zs' 0 va) 1 (.agg vb.toArray) vb n _ (by simp [hvb]) rfl (by rw [lay_length]; omega), Instr.fill]
    congr 2
    rw [lay_eq _ _ _ (by rw [lay_length]; omega), lay_eq zs' 0 va (by omega)]
    have : zs'.drop (0 + va.length) = (zs'.drop va.length) := by rw [Nat.zero_add]
    simp only [List.take_zero, List.nil_append, Nat.zero_add]
    rw [List.take_append_of_le_length (by omega), List.take_of_length_le (by omega), List.drop_of_length_le (by rw [List.length_append, List.length_drop]; omega), List.append_nil]
  have h2 : Instr.fill (fun i => some (i * n, n)) (Array.map (fun k => zs.toArray[k % zs.toArray.size]!) (Array.range (2 * n))) [(0, .agg va.toArray), (1, .agg vb.toArray)] = some (va ++ vb).toArray := by
    obtain ⟨l, hl⟩ : ∃ l : List Value, Array.map (fun k => zs.toArray[k % zs.toArray.size]!) (Array.range (2 * n)) = l.toArray := ⟨_, (Array.toArray_toList).symm⟩
    rw [hl]
    refine h1 l ?_
    have := congrArg Array.size hl
    simp at this
    omega
  unfold Instr.buildSlice
  have hnz : ¬ (2 * n = 0) := by omega
  have hnb : ¬ (2 * n > 2 ^ 24) := by omega
  simp only [Sem.run_bind, run_underlying hu, Result.andThen_ok, run_size hs, hnb, hnz, if_false, run_zero hi hzz, hzs]
  simp only [Sem.run_pure, Sem.run_bind, Result.andThen_ok, h2, newRow, newObj]
  rfl
theorem mkHs2_run (w : World) (a b : List Int) (ha : a.length = 32) (hb : b.length = 32) : (mkHs2 #[(0, .agg (bcs a).toArray), (1, .agg (bcs b).toArray)]).run Try.prog w = .ok (.slice (some ⟨w.heap.size, 0, none⟩) 2 2) (w.alloc (.cells (bcs a ++ bcs b).toArray 31)) :=
  run_buildSlice_two 65 31 32 Try.underlying65 isHash hash_zeros (by decide) (by decide) (bcs a) (bcs b) (by rw [bcs_length, ha]) (by rw [bcs_length, hb]) w
theorem two_in {w : World} {g : Nat} {x y : List Int} (h : Blk w g 31 (bcs x ++ bcs y)) (hx : x.length = 32 ∧ Byt x) (hy : y.length = 32 ∧ Byt y) : HashesIn w (some ⟨g, 0, none⟩) 2 [x, y] := by
  refine ⟨rfl, fun a ha => ?_, fun _ => ⟨g, 0, rfl, fun i a ha => ?_⟩⟩
  · rcases List.mem_cons.1 ha with rfl | ha
    · exact hx
    · obtain rfl : a = y := by simpa using ha
      exact hy
  · rcases i with _ | _ | i
    · obtain rfl : x = a := by simpa using ha
      exact h.range _ _ fun j v hv => by
        have := (List.getElem?_eq_some_iff.1 hv).1
        rw [Nat.zero_mul, Nat.add_zero, Nat.zero_add, List.getElem?_append_left this]; exact hv
    · obtain rfl : y = a := by simpa using ha
      exact h.range _ _ fun j v hv => by
        have hl : (bcs x).length = 32 := by rw [bcs_length, hx.1]
        rw [List.getElem?_append_right (by rw [hl]; omega), hl, show 0 + (0 + 1) * 32 + j - 32 = j by omega]; exact hv
    · simp at ha
end Go.Proofs.Ytbpmcnfmgaolnaa
