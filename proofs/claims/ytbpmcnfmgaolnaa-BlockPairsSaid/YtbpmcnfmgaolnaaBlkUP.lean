import Derived.Test.YtbpmcnfmgaolnaaPk23
/-
  Rows of hashes of one's own, changed in place.
-/
namespace Go.Proofs.Ytbpmcnfmgaolnaa
open Go.RowKit

theorem flat_get_div : ∀ (l : List (List Int)), (∀ x ∈ l, x.length = 32) → ∀ p, (l.flatMap bcs)[p]? = (l[p / 32]?).bind fun x => (bcs x)[p % 32]?
  | [], _, p => by simp
  | a :: l, h, p => by
    have ha : (bcs a).length = 32 := by rw [bcs_length, h a (by simp)]
    rw [List.flatMap_cons]
    by_cases hp : p < 32
    · rw [List.getElem?_append_left (by omega), show p / 32 = 0 by omega, show p % 32 = p by omega]
      rfl
    · rw [List.getElem?_append_right (by omega), ha, flat_get_div l (fun x hx => h x (by simp [hx])) (p - 32), show p / 32 = (p - 32) / 32 + 1 by omega, show p % 32 = (p - 32) % 32 by omega]
      rfl
theorem flat_len32 (l : List (List Int)) (h : ∀ x ∈ l, x.length = 32) : (l.flatMap bcs).length = l.length * 32 := by
  induction l with
  | nil => rfl
  | cons a l ih => rw [List.flatMap_cons, List.length_append, bcs_length, h a (by simp), ih (fun x hx => h x (by simp [hx])), List.length_cons]; omega
theorem flat_one32 (l : List (List Int)) : ∀ v ∈ l.flatMap bcs, v.oneCell' = true := fun v hv => by
  obtain ⟨x, _, hx⟩ := List.mem_flatMap.1 hv
  exact bcs_one x v hx
theorem flat_at (l : List (List Int)) (h : ∀ x ∈ l, x.length = 32) (k : Nat) (x : List Int) (hk : l[k]? = some x) (j : Nat) (hj : j < 32) : (l.flatMap bcs)[k * 32 + j]? = (bcs x)[j]? := by
  rw [flat_get_div l h, show (k * 32 + j) / 32 = k by omega, show (k * 32 + j) % 32 = j by omega, hk]
  rfl
theorem lay_flat (l : List (List Int)) (h : ∀ x ∈ l, x.length = 32) (k : Nat) (hk : k < l.length) (d : List Int) (hd : d.length = 32) : lay (l.flatMap bcs) (k * 32) (bcs d) = (l.set k d).flatMap bcs := by
  have hs : ∀ x ∈ l.set k d, x.length = 32 := fun x hx => by
    rcases List.mem_or_eq_of_mem_set hx with h1 | h1
    · exact h x h1
    · rw [h1]; exact hd
  apply List.ext_getElem?
  intro p
  rw [lay_get _ _ _ _ (by rw [flat_len32 l h, bcs_length, hd]; omega), flat_get_div _ hs, bcs_length, hd]
  by_cases hp : k * 32 ≤ p ∧ p < k * 32 + 32
  · rw [if_pos hp, show p / 32 = k by omega, show p % 32 = p - k * 32 by omega, List.getElem?_set_self hk]
    rfl
  · rw [if_neg hp, flat_get_div _ h, List.getElem?_set_ne (by omega)]
theorem take_lay (L vs : List Value) (n o : Nat) (h : o + vs.length ≤ n) (hn : n ≤ L.length) : (lay L o vs).take n = lay (L.take n) o vs := by
  apply List.ext_getElem?
  intro p
  rw [lay_get _ _ _ _ (by rw [List.length_take]; omega), List.getElem?_take, lay_get _ _ _ _ (by omega), List.getElem?_take]
  by_cases h1 : p < n
  · rw [if_pos h1, if_pos h1]
  · rw [if_neg h1, if_neg (by omega), if_neg h1]
/-- A store of a hash into a row of one's own, at a step of a region that draws its order. -/
theorem step_store_row {ops : Array Oper} {op : Oper} {a : Act} {w : World} {K : Act → World → Prop} {Q : Exit → Act → World → Prop} {E : Prop} (hgd : op.guard = none) (x y : Operand) (ho : op.op = .store 31 x y)
    (g k : Nat) (l : List (List Int)) (d : List Int) (hl : ∀ x ∈ l, x.length = 32) (hk : k < l.length) (hd : d.length = 32) (hx : a.eval x = .pointer (some ⟨g, k * 32, none⟩)) (hy : a.eval y = .agg (bcs d).toArray) (hb : RowB w g 31 (l.flatMap bcs))
    (h : ∀ w', Only (fun i => i = g) w w' → RowB w' g 31 ((l.set k d).flatMap bcs) → K (a.put op.dst undef) w') :
    if Region.wanted op (yielded ops a.tmps) = true then Oper.wp Try.prog op a w K Q else E := by
  obtain ⟨L, hL, ht⟩ := hb
  have hlen := flat_len32 l hl
  have hLl : l.length * 32 ≤ L.length := by
    have h9 := congrArg List.length ht
    rw [List.length_take, hlen] at h9
    omega
  refine step_store_blk hgd 31 x y ho g (k * 32) 31 L (bcs d) hx hy hL (by rw [bcs_length, hd]; omega) (by rw [bcs_length, hd]; exact isHash32) (bcs_one d) ?_
  intro w' o _ b
  refine h w' o ⟨_, b, ?_⟩
  rw [← lay_flat l hl k hk d hd, lay_length, take_lay L (bcs d) _ _ (by rw [bcs_length, hd, hlen]; omega) (by rw [hlen]; exact hLl), ht]
theorem RowB.hash {w : World} {g : Nat} {l : List (List Int)} (h : RowB w g 31 (l.flatMap bcs)) (hl : ∀ x ∈ l, x.length = 32) {k : Nat} {x : List Int} (hk : l[k]? = some x) : w.rangeAt g (k * 32) (bcs x) := fun j v hv => by
  have hj : j < 32 := by have := (List.getElem?_eq_some_iff.1 hv).1; rw [bcs_length, hl x (List.mem_of_getElem? hk)] at this; exact this
  exact h.cell _ _ (by rw [flat_at l hl k x hk j hj]; exact hv)
theorem RowB.hashes {w : World} {g n : Nat} {l : List (List Int)} (h : RowB w g 31 (l.flatMap bcs)) (hn : l.length = n) (hf : ∀ x ∈ l, x.length = 32 ∧ Byt x) : HashesIn w (some ⟨g, 0, none⟩) n l :=
  ⟨hn, hf, fun _ => ⟨g, 0, rfl, fun i a ha => by rw [Nat.zero_add]; exact h.hash (fun x hx => (hf x hx).1) ha⟩⟩
/-- One byte of one hash is changed. -/
theorem RowB.byte {w : World} {g : Nat} {l : List (List Int)} (h : RowB w g 31 (l.flatMap bcs)) (hl : ∀ x ∈ l, x.length = 32) {k : Nat} {x : List Int} (hk : l[k]? = some x) (i : Nat) (hi : i < 32) (v : Int) : RowB (w.setCell ⟨g, k * 32 + i, none⟩ (.int .u8 v)) g 31 ((l.set k (x.set i v)).flatMap bcs) := by
  have h1 := h.set_ (k * 32 + i) (.int .u8 v)
  rwa [flatMap_set bcs 32 l k i x (x.set i v) (.int .u8 v) (fun y hy => by rw [bcs_length, hl y hy]) hk hi (by rw [bcs_set])] at h1
theorem RowB.byteAt {w : World} {g : Nat} {l : List (List Int)} (h : RowB w g 31 (l.flatMap bcs)) (hl : ∀ x ∈ l, x.length = 32) {k : Nat} {x : List Int} (hk : l[k]? = some x) (i : Nat) (v : Int) (hv : x[i]? = some v) : w.cell? ⟨g, k * 32 + i, none⟩ = some (.int .u8 v) := by
  have hi : i < 32 := by have := (List.getElem?_eq_some_iff.1 hv).1; rw [hl x (List.mem_of_getElem? hk)] at this; exact this
  exact h.cell _ _ (by rw [flat_at l hl k x hk i hi]; simp [bcs, hv])
end Go.Proofs.Ytbpmcnfmgaolnaa
