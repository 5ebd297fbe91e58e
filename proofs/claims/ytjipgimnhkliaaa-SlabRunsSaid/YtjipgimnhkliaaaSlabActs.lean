/-
  What a slice of acts looks like in memory; two devices side by side.
-/
import Derived.Test.YtjipgimnhkliaaaSlabG
import Derived.Test.YtjipgimnhkliaaaSlabP
import Derived.Test.YtjipgimnhkliaaaOpen
namespace Go.Proofs.Ytjipgimnhkliaaa
open Go.RowKit

/-- From 'for each i below n there is one' to a list. -/
theorem list_of_lt {α : Type} {p : Nat → α → Prop} : ∀ (n : Nat), (∀ i, i < n → ∃ a, p i a) → ∃ xs : List α, xs.length = n ∧ ∀ (i : Nat) (a : α), xs[i]? = some a → p i a
  | 0, _ => ⟨[], rfl, fun i a h => by simp at h⟩
  | n + 1, h => by
    obtain ⟨xs, hl, hx⟩ := list_of_lt n (fun i hi => h i (by omega))
    obtain ⟨a, ha⟩ := h n (by omega)
    refine ⟨xs ++ [a], by simp [hl], fun i b hb => ?_⟩
    by_cases hi : i < n
    · rw [List.getElem?_append_left (by omega)] at hb
      exact hx i b hb
    · rw [List.getElem?_append_right (by omega)] at hb
      have : i = n := by
        have := (List.getElem?_eq_some_iff.1 hb).1
        simp at this; omega
      subst this
      simp [hl] at hb
      subst hb
      exact ha
structure ActV where
  kind : Int
  at_ : Int
  v : Int
  A : Option Addr
  n : Nat
  c : Nat
  bs : List Int
def ActV.cells (a : ActV) : List Value := [.int .i64 a.kind, .int .i64 a.at_, .int .u8 a.v, .slice a.A a.n a.c]
structure ActV.Fine (w : World) (a : ActV) : Prop where
  kind : -9223372036854775808 ≤ a.kind ∧ a.kind ≤ 9223372036854775807
  at_ : -9223372036854775808 ≤ a.at_ ∧ a.at_ ≤ 9223372036854775807
  v : 0 ≤ a.v ∧ a.v ≤ 255
  bys : Bys w a.A a.n a.bs
  cap : a.n ≤ a.c ∧ a.c ≤ maxLen
def ActsIn (w : World) (A : Option Addr) (n : Nat) (xs : List ActV) : Prop :=
  xs.length = n ∧ (∀ a ∈ xs, a.Fine w) ∧ (0 < n → ∃ b off : Nat, A = some ⟨b, off, none⟩ ∧ ∀ (i : Nat) (a : ActV), xs[i]? = some a → w.rangeAt b (off + i * 4) a.cells)
theorem range_below {w w' : World} {b o : Nat} {cs : List Value} (h : w.rangeAt b o cs) (hb : Below w.heap.size w w') : w'.rangeAt b o cs := fun j v hv => by
  have h1 := h j v hv
  exact (World.cell?_of_block (w := w) (hb.block b (World.block_lt_of_cell? w _ h1))).trans h1
theorem bys_below {w w' : World} {A : Option Addr} {n : Nat} {bs : List Int} (h : Bys w A n bs) (hb : Below w.heap.size w w') : Bys w' A n bs := by
  refine ⟨h.1, h.2.1, fun hn => ?_⟩
  obtain ⟨b, off, hA, hc⟩ := h.2.2 hn
  refine ⟨b, off, hA, fun j v hv => ?_⟩
  have h1 := hc j v hv
  exact (World.cell?_of_block (w := w) (hb.block b (World.block_lt_of_cell? w _ h1))).trans h1
theorem ActsIn.nil (w : World) (A : Option Addr) : ActsIn w A 0 [] := ⟨rfl, by simp, fun h => absurd h (by omega)⟩
theorem act_size : (Try.prog.info? 29).map (·.size) = some 4 := by kernel_rfl
theorem act_zero : (Try.prog.info? 29).map (·.zero) = some (some (.agg ([.int .i64 0, .int .i64 0, .int .u8 0, .slice none 0 0] : List Value).toArray)) := by kernel_rfl
theorem act_one (a : ActV) : ∀ v ∈ a.cells, v.oneCell' = true := by
  intro v hv
  simp [ActV.cells] at hv
  rcases hv with rfl | rfl | rfl | rfl <;> rfl

theorem St.drew {w0 w : World} {b : Nat} {F : Nat → Prop} {d : Dev} (h : St w0 w b F d) : St w0 w.drew b F d := ⟨h.rep, h.below.drew, h.ge⟩
theorem own_below {w w' : World} {base : Nat} {e : TypeId} {size n : Nat} {v : Value} {xs : List Value} (h : w.ownsRow base e size v n xs) (hb : Below w.heap.size w.drew w') : w'.ownsRow base e size v n xs :=
  (Only.of_below (⟨hb.os, hb.tape, hb.output, hb.size, hb.block⟩ : Below w.heap.size w w') (fun _ => False)).own h (fun _ _ hf => hf)
theorem bys_of_own {w : World} {base : Nat} {e : TypeId} {v : Value} {n : Nat} {bs : List Int} (h : w.ownsRow base e 1 v n (bs.map (Value.int .u8 ·))) (hb : ∀ v ∈ bs, 0 ≤ v ∧ v ≤ 255) :
    ∃ (A : Option Addr) (c : Nat), v = .slice A n c ∧ Bys w A n bs := by
  obtain ⟨A, c, hv, hr⟩ := own_cases h
  refine ⟨A, c, hv, by have := h.1; simpa using this, hb, fun hn => ?_⟩
  obtain ⟨g, hA, cs, hcs, hget⟩ := hr hn
  refine ⟨g, 0, hA, fun j v hv => ?_⟩
  rw [Nat.zero_add, hcs.cell]
  exact hget j _ (by rw [List.getElem?_map, hv]; rfl)
/-- A step on one device leaves the other. -/
theorem St.beside {w0 w w' : World} {b : Nat} {Fa Fa' Fb : Nat → Prop} {db : Dev} (hb : St w0 w b Fb db) (hd : ∀ i, Fb i → ¬ Fa i) (hge : ∀ i, Fa i → w0.heap.size ≤ i) (ho : Only Fa w w') (hg : ∀ i, Fa' i → Fa i ∨ w.heap.size ≤ i) :
    St w0 w' b Fb db ∧ ∀ i, Fb i → ¬ Fa' i :=
  ⟨hb.other ho hd hge, fun i hi hf => by
    rcases hg i hf with h | h
    · exact hd i hi h
    · have := hb.lt i hi; omega⟩

/-! ### From a reading -/
open Go.WideShapes Go.ChangeShapes in
theorem act_of_cells {H : Type} {enc : TypeId × Value → H} {W : World} {m : Nat} {cs : List Value} {y : DataW H × List MemPlace} (h : DataW.trod enc Try.prog W 0 (fun _ => true) true m 29 cs = some y) (hl : cs.length = 4) :
    ∃ a : ActV, cs = a.cells ∧ a.Fine W := by
  match cs, hl with
  | [c0, c1, c2, c3], _ =>
    obtain ⟨xs, n, _, _, _, hlen, hg⟩ := DataW.trod_struct Try.underlying29 h
    obtain ⟨y0, h0⟩ := one_field hg hlen 0 _ c0 rfl (by kernel_rfl) rfl
    obtain ⟨y1, h1⟩ := one_field hg hlen 1 _ c1 rfl (by kernel_rfl) rfl
    obtain ⟨y2, h2⟩ := one_field hg hlen 2 _ c2 rfl (by kernel_rfl) rfl
    obtain ⟨y3, h3⟩ := one_field hg hlen 3 _ c3 rfl (by kernel_rfl) rfl
    obtain ⟨n0, rfl, w0⟩ := int_of_cells Try.underlying3 h0
    obtain ⟨n1, rfl, w1⟩ := int_of_cells Try.underlying3 h1
    obtain ⟨n2, rfl, w2⟩ := int_of_cells Try.underlying5 h2
    obtain ⟨A, k, c, bs, rfl, hb, hk, hc⟩ := bys_of_cells Try.underlying24 Try.underlying5 (by kernel_rfl) h3
    exact ⟨⟨n0, n1, n2, A, k, c, bs⟩, rfl, ⟨wf64 w0, wf64 w1, wf8 w2, hb, hk, hc⟩⟩
theorem acts_of_reading {H : Type} {enc : TypeId × Value → H} {W : World} {fuel : Nat} {V : Value} {x : DataW H × List MemPlace} (h : DataW.trod enc Try.prog W 0 (fun _ => true) true fuel 22 [V] = some x) :
    ∃ (A : Option Addr) (n c : Nat) (xs : List ActV), V = .slice A n c ∧ ActsIn W A n xs ∧ n ≤ c ∧ c ≤ maxLen := by
  obtain ⟨A, n, c, hV, hn, hc, hr⟩ := rows_of_cells Try.underlying22 4 (by kernel_rfl) (by decide) h
  rcases Nat.eq_zero_or_pos n with h0 | h0
  · subst h0
    exact ⟨A, 0, c, [], hV, ActsIn.nil _ _, hn, hc⟩
  · obtain ⟨b, off, hA, hi⟩ := hr h0
    have hex : ∀ i, i < n → ∃ a : ActV, a.Fine W ∧ W.rangeAt b (off + i * 4) a.cells := fun i hin => by
      obtain ⟨cs', m, y, hl, hcell, ht⟩ := hi i hin
      obtain ⟨a, rfl, hf⟩ := act_of_cells ht hl
      exact ⟨a, hf, fun j v hv => by have := hcell j v hv; rwa [Nat.add_assoc] at this ⊢⟩
    obtain ⟨xs, hxl, hxs⟩ := list_of_lt n hex
    refine ⟨A, n, c, xs, hV, ⟨hxl, fun a ha => ?_, fun _ => ⟨b, off, hA, fun i a ha => (hxs i a ha).2⟩⟩, hn, hc⟩
    obtain ⟨i, hi⟩ := List.mem_iff_getElem?.1 ha
    exact (hxs i a hi).1
end Go.Proofs.Ytjipgimnhkliaaa
