/- Lemmas and walks for TableRuns, packed. -/
import Derived.Test.YtjnpkcabkccaoaaGreatQ20
import Derived.Test.YtjnpkcabkccaoaaGreatQ33
import Derived.Test.YtjnpkcabkccaoaaGreatQ48
set_option maxRecDepth 100000
set_option maxHeartbeats 16000000
namespace Go.Proofs.YtjnpkcabkccaoaaGreat
open Go.RowKit
open Go.WideShapes Go.ChangeShapes in
theorem prows_of_reading {H : Type} {enc : TypeId × Value → H} {P : Program} {W : World} {fuel : Nat} {V : Value} {x : DataW H × List MemPlace} {t e : TypeId} {α : Type} {cells : α → List Value} {k : Nat} {fine : World → α → Prop}
  (ht : P.underlying t = some (.slice e)) (hs : P.cellsOf e = k) (h0 : 0 < k)
  (hc : ∀ (m : Nat) (cs : List Value) (y : DataW H × List MemPlace), DataW.trod enc P W 0 (fun _ => true) true m e cs = some y → cs.length = k → ∃ a : α, cs = cells a ∧ fine W a)
  (h : DataW.trod enc P W 0 (fun _ => true) true fuel t [V] = some x) :
  ∃ (A : Option Addr) (n c : Nat) (xs : List α), V = .slice A n c ∧ RowsIn cells k fine W A n xs ∧ n ≤ c ∧ c ≤ maxLen := by
 obtain ⟨A, n, c, hV, hn, hcm, hr⟩ := rows_of_cells ht k hs h0 h
 rcases Nat.eq_zero_or_pos n with hz | hz
 ·subst hz
  exact ⟨A, 0, c, [], hV, RowsIn.nil _ _ _ _ _, hn, hcm⟩
 ·obtain ⟨b, off, hA, hi⟩ := hr hz
  have hex : ∀ i, i < n → ∃ a : α, fine W a ∧ W.rangeAt b (off + i * k) (cells a) := fun i hin => by
   obtain ⟨cs', m, y, hl, hcell, ht⟩ := hi i hin
   obtain ⟨a, rfl, hf⟩ := hc m cs' y ht hl
   exact ⟨a, hf, fun j v hv => by have := hcell j v hv; rwa [Nat.add_assoc] at this ⊢⟩
  obtain ⟨xs, hxl, hxs⟩ := list_upto n hex
  refine ⟨A, n, c, xs, hV, ⟨hxl, fun a ha => ?_, fun _ => ⟨b, off, hA, fun i a ha => (hxs i a ha).2⟩⟩, hn, hcm⟩
  obtain ⟨i, hi⟩ := List.mem_iff_getElem?.1 ha
  exact (hxs i a hi).1
open Go.WideShapes Go.ChangeShapes in
theorem pair_of_cells {H : Type} {enc : TypeId × Value → H} {W : World} {m : Nat} {cs : List Value} {y : DataW H × List MemPlace} (h : DataW.trod enc Tryz.prog W 0 (fun _ => true) true m 59 cs = some y) (hl : cs.length = 3) :
  ∃ a : PairV, cs = a.cells ∧ a.Fine W := by
 match cs, hl with
 | [c0, c1, c2], _ =>
  obtain ⟨xs, n, _, _, _, hlen, hg⟩ := DataW.trod_struct Tryz.underlying59 h
  obtain ⟨y0, h0⟩ := one_field hg hlen 0 _ c0 rfl (by kernel_rfl) rfl
  obtain ⟨y1, h1⟩ := one_field hg hlen 1 _ c1 rfl (by kernel_rfl) rfl
  obtain ⟨y2, h2⟩ := one_field hg hlen 2 _ c2 rfl (by kernel_rfl) rfl
  obtain ⟨A, k, c, bs, rfl, hB, hk, _⟩ := bys_of_cells Tryz.underlying23 Tryz.underlying5 (by kernel_rfl) h0
  obtain ⟨A', k', c', bs', rfl, hB', hk', _⟩ := bys_of_cells Tryz.underlying23 Tryz.underlying5 (by kernel_rfl) h1
  obtain ⟨b, hb, _⟩ := DataW.trod_bool Tryz.underlying4 h2
  obtain rfl : c2 = .bool b := by simpa using hb
  exact ⟨⟨A, k, c, bs, A', k', c', bs', b⟩, rfl, ⟨hB, hk, hB', hk'⟩⟩
open Go.WideShapes Go.ChangeShapes in
theorem pairs_of_reading {H : Type} {enc : TypeId × Value → H} {W : World} {fuel : Nat} {V : Value} {x : DataW H × List MemPlace} (h : DataW.trod enc Tryz.prog W 0 (fun _ => true) true fuel 37 [V] = some x) :
  ∃ (A : Option Addr) (n c : Nat) (xs : List PairV), V = .slice A n c ∧ PairsIn W A n xs ∧ n ≤ c ∧ c ≤ maxLen :=
 prows_of_reading Tryz.underlying37 (by kernel_rfl) (by decide) (fun _ _ _ ht hl => pair_of_cells ht hl) h
open Go.WideShapes Go.ChangeShapes in
theorem tact_of_cells {H : Type} {enc : TypeId × Value → H} {W : World} {m : Nat} {cs : List Value} {y : DataW H × List MemPlace} (h : DataW.trod enc Tryz.prog W 0 (fun _ => true) true m 39 cs = some y) (hl : cs.length = 4) :
  ∃ a : TActV, cs = a.cells ∧ a.Fine W := by
 match cs, hl with
 | [c0, c1, c2, c3], _ =>
  obtain ⟨xs, n, _, _, _, hlen, hg⟩ := DataW.trod_struct Tryz.underlying39 h
  obtain ⟨y0, h0⟩ := one_field hg hlen 0 _ c0 rfl (by kernel_rfl) rfl
  obtain ⟨y1, h1⟩ := one_field hg hlen 1 _ c1 rfl (by kernel_rfl) rfl
  obtain ⟨y2, h2⟩ := one_field hg hlen 2 _ c2 rfl (by kernel_rfl) rfl
  obtain ⟨y3, h3⟩ := one_field hg hlen 3 _ c3 rfl (by kernel_rfl) rfl
  obtain ⟨kind, rfl, _⟩ := int_of_cells Tryz.underlying3 h0
  obtain ⟨num, rfl, hn⟩ := int_of_cells Tryz.underlying3 h1
  obtain ⟨A, k, c, xs, rfl, hX, hc, _⟩ := pairs_of_reading h2
  obtain ⟨A', k', c', bs', rfl, hB', hk', _⟩ := bys_of_cells Tryz.underlying23 Tryz.underlying5 (by kernel_rfl) h3
  exact ⟨⟨kind, num, A, k, c, xs, A', k', c', bs'⟩, rfl, ⟨wf64 hn, hX, hc, hB', hk'⟩⟩
open Go.WideShapes Go.ChangeShapes in
theorem tacts_of_reading {H : Type} {enc : TypeId × Value → H} {W : World} {fuel : Nat} {V : Value} {x : DataW H × List MemPlace} (h : DataW.trod enc Tryz.prog W 0 (fun _ => true) true fuel 22 [V] = some x) :
  ∃ (A : Option Addr) (n c : Nat) (xs : List TActV), V = .slice A n c ∧ TActsIn W A n xs ∧ n ≤ c ∧ c ≤ maxLen :=
 prows_of_reading Tryz.underlying22 (by kernel_rfl) (by decide) (fun _ _ _ ht hl => tact_of_cells ht hl) h
open Go.WideShapes Go.ChangeShapes in
theorem two_byts {H : Type} {enc : TypeId × Value → H} {W : World} {r : Reach} {b0 : Nat} {v : Value} {d : DataW H} {p : List MemPlace} (hv : Value.okWide Tryz.prog W r b0 24 v) (h : DataW.Trod enc Tryz.prog W 0 (fun _ => true) true 24 v d p) :
  ∃ A n c A' n' c' xs xs', v = .agg #[.slice A n c, .slice A' n' c'] ∧ (Bys W A n xs ∧ n ≤ c) ∧ (Bys W A' n' xs' ∧ n' ≤ c') := by
 obtain ⟨cs, rfl, hs⟩ := okWide_array Tryz.underlying24 hv
 have hc : Tryz.prog.cellsOf 24 = 2 := by kernel_rfl
 rw [hc] at hs
 obtain ⟨fuel, hf⟩ := h
 match cs, hs with
 | ⟨[x0, x1]⟩, _ =>
  obtain ⟨m, y0, y1, h0, h1⟩ := two_of_array Tryz.underlying24 (by kernel_rfl) hf
  obtain ⟨A, n, c, bs, e, g1, g2, g3⟩ := bys_of_cells Tryz.underlying23 Tryz.underlying5 (by kernel_rfl) h0
  obtain ⟨A', n', c', bs', e', g1', g2', g3'⟩ := bys_of_cells Tryz.underlying23 Tryz.underlying5 (by kernel_rfl) h1
  subst e
  subst e'
  exact ⟨A, n, c, A', n', c', bs, bs', rfl, ⟨g1, g2⟩, g1', g2'⟩
end Go.Proofs.YtjnpkcabkccaoaaGreat
