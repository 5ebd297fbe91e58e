/-
  A region that draws its order: two calls, one behind the other, and three allocations in whatever order.
-/
import Derived.Test.YtfloclamdpageaaBase
namespace Go.Proofs.Ytfloclamdpageaa
open Go.RowKit

theorem wpAnyH_2c3 {P : Program} {ops : Array Oper} {Q : Exit → Act → World → Prop} {S : World → Prop} {m : Nat} (L : Bool → Bool → Bool → Bool → Bool → Array Bool) (Φ : Bool → Bool → Bool → Bool → Bool → Act → World → Prop) (i1 i2 i4 i5 i6 : Nat)
    (hr : ∀ b1 b2 b4 b5 b6 : Bool, (b2 = true → b1 = true) → (b2 && b4 && b5 && b6) = false → Region.ready .any ops (L b1 b2 b4 b5 b6) = (if b1 then (if b2 then [] else [i2]) else [i1]) ++ ((if b4 then [] else [i4]) ++ ((if b5 then [] else [i5]) ++ (if b6 then [] else [i6]))))
    (h1 : ∀ b1 b2 b4 b5 b6 : Bool, (L b1 b2 b4 b5 b6).setIfInBounds i1 true = L true b2 b4 b5 b6) (h2 : ∀ b1 b2 b4 b5 b6 : Bool, (L b1 b2 b4 b5 b6).setIfInBounds i2 true = L b1 true b4 b5 b6)
    (h4 : ∀ b1 b2 b4 b5 b6 : Bool, (L b1 b2 b4 b5 b6).setIfInBounds i4 true = L b1 b2 true b5 b6) (h5 : ∀ b1 b2 b4 b5 b6 : Bool, (L b1 b2 b4 b5 b6).setIfInBounds i5 true = L b1 b2 b4 true b6) (h6 : ∀ b1 b2 b4 b5 b6 : Bool, (L b1 b2 b4 b5 b6).setIfInBounds i6 true = L b1 b2 b4 b5 true)
    (s1 : ∀ b4 b5 b6 a w, Φ false false b4 b5 b6 a w → wpOp P ops Q i1 (fun a' w' => S w' ∧ Φ true false b4 b5 b6 a' w') a w)
    (s2 : ∀ b4 b5 b6 a w, Φ true false b4 b5 b6 a w → wpOp P ops Q i2 (fun a' w' => S w' ∧ Φ true true b4 b5 b6 a' w') a w)
    (s4 : ∀ b1 b2 b5 b6 a w, Φ b1 b2 false b5 b6 a w → wpOp P ops Q i4 (fun a' w' => S w' ∧ Φ b1 b2 true b5 b6 a' w') a w)
    (s5 : ∀ b1 b2 b4 b6 a w, Φ b1 b2 b4 false b6 a w → wpOp P ops Q i5 (fun a' w' => S w' ∧ Φ b1 b2 b4 true b6 a' w') a w)
    (s6 : ∀ b1 b2 b4 b5 a w, Φ b1 b2 b4 b5 false a w → wpOp P ops Q i6 (fun a' w' => S w' ∧ Φ b1 b2 b4 b5 true a' w') a w)
    (hend : ∀ a w, Φ true true true true true a w → S w → wpAnyH P .any ops Q S m (L true true true true true) a w) :
    ∀ (k : Nat) (b1 b2 b4 b5 b6 : Bool), (b2 = true → b1 = true) → k = (if b1 then 0 else 1) + (if b2 then 0 else 1) + (if b4 then 0 else 1) + (if b5 then 0 else 1) + (if b6 then 0 else 1) → ∀ a w, Φ b1 b2 b4 b5 b6 a w → S w → wpAnyH P .any ops Q S (m + k) (L b1 b2 b4 b5 b6) a w := by
  intro k
  induction k with
  | zero =>
    intro b1 b2 b4 b5 b6 _ hk a w hΦ hS
    cases b1 <;> cases b2 <;> cases b4 <;> cases b5 <;> cases b6 <;> first | (exfalso; revert hk; decide) | exact hend a w hΦ hS
  | succ k ih =>
    intro b1 b2 b4 b5 b6 hb hk a w hΦ hS
    have hall : (b2 && b4 && b5 && b6) = false := by
      cases b1 <;> cases b2 <;> cases b4 <;> cases b5 <;> cases b6 <;> first | rfl | (exfalso; simp at hk hb)
    refine wpAnyH_all (hr b1 b2 b4 b5 b6 hb hall) ?_ ?_
    · cases b1 <;> cases b2 <;> cases b4 <;> cases b5 <;> cases b6 <;> simp at hb hall ⊢
    · intro i hi
      rcases List.mem_append.1 hi with hi | hi
      · cases b1 with
        | false =>
          simp only [Bool.false_eq_true, if_false, List.mem_singleton] at hi
          subst hi
          have hb2 : b2 = false := by cases b2 <;> simp at hb ⊢
          subst hb2
          refine wpOp_mono (fun a' w' h => ⟨h.1, ?_⟩) (s1 b4 b5 b6 a w hΦ)
          rw [h1]
          exact ih _ _ _ _ _ (by simp) (by simp at hk ⊢; omega) a' w' h.2 h.1
        | true =>
          cases b2 with
          | true => simp at hi
          | false =>
            simp only [Bool.false_eq_true, if_false, if_true, List.mem_singleton] at hi
            subst hi
            refine wpOp_mono (fun a' w' h => ⟨h.1, ?_⟩) (s2 b4 b5 b6 a w hΦ)
            rw [h2]
            exact ih _ _ _ _ _ (by simp) (by simp at hk ⊢; omega) a' w' h.2 h.1
      · rcases List.mem_append.1 hi with hi | hi
        · cases b4 with
          | true => simp at hi
          | false =>
            simp only [Bool.false_eq_true, if_false, List.mem_singleton] at hi
            subst hi
            refine wpOp_mono (fun a' w' h => ⟨h.1, ?_⟩) (s4 b1 b2 b5 b6 a w hΦ)
            rw [h4]
            exact ih _ _ _ _ _ hb (by simp at hk ⊢; omega) a' w' h.2 h.1
        · rcases List.mem_append.1 hi with hi | hi
          · cases b5 with
            | true => simp at hi
            | false =>
              simp only [Bool.false_eq_true, if_false, List.mem_singleton] at hi
              subst hi
              refine wpOp_mono (fun a' w' h => ⟨h.1, ?_⟩) (s5 b1 b2 b4 b6 a w hΦ)
              rw [h5]
              exact ih _ _ _ _ _ hb (by simp at hk ⊢; omega) a' w' h.2 h.1
          · cases b6 with
            | true => simp at hi
            | false =>
              simp only [Bool.false_eq_true, if_false, List.mem_singleton] at hi
              subst hi
              refine wpOp_mono (fun a' w' h => ⟨h.1, ?_⟩) (s6 b1 b2 b4 b5 a w hΦ)
              rw [h6]
              exact ih _ _ _ _ _ hb (by simp at hk ⊢; omega) a' w' h.2 h.1
section
variable {P : Program}
theorem wp_store_blk {op : Oper} {a : Act} {w : World} {K : Act → World → Prop} {Q : Exit → Act → World → Prop} (ty : TypeId) (x y : Operand) (ho : op.op = .store ty x y)
    (g o : Nat) (t : TypeId) (cs vs : List Value) (hx : a.eval x = .pointer (some ⟨g, o, none⟩)) (hy : a.eval y = .agg vs.toArray) (hb : Blk w g t cs) (hl : o + vs.length ≤ cs.length)
    (hi : (P.info? ty).map (·.size) = some vs.length) (h1 : ∀ v ∈ vs, v.oneCell' = true)
    (h : ∀ w', Only (fun i => i = g) w w' → w'.heap.size = w.heap.size → Blk w' g t (lay cs o vs) → K (a.put op.dst undef) w') : op.wp P a w K Q := by
  refine wp_store_mid ty x y ho g o vs.toArray hx hy (by simpa using hb.there o vs.length hl) (by simpa using hi) (all_oneCell_toArray h1) ?_
  exact h _ (Only.setCells (F := fun i => i = g) (.inr rfl) _ _ _ (Only.refl _ w)) (by rw [setCells_size]) (by simpa using hb.cells vs o w cs)
end
end Go.Proofs.Ytfloclamdpageaa
