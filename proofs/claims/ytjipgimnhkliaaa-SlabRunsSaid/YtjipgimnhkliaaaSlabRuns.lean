/-
  bynamelaw13.SlabRuns answers true: the device and the document's side by side. No condition.
-/
import Derived.Test.YtjipgimnhkliaaaSlabL
import Derived.Test.YtjipgimnhkliaaaSlabActs
namespace Go.Proofs.Ytjipgimnhkliaaa
open Go.RowKit
attribute [local go_sem ↓] mkSlab_fold eqlSlab_fold neqSlab_fold loadSlab_fold
attribute [local go_sem] mkSlab_run mkSlab_run1 guardSlab

/-- The two of them, in one memory. -/
structure Two (w0 w : World) (b : Nat) (F : Nat → Prop) (q : Nat) (G : Nat → Prop) (d d' : Dev) : Prop where
  st : St w0 w b F d
  doc : DocRep w q G d'
  apart : ∀ i, F i → ¬ G i
  ge : ∀ i, G i → w0.heap.size ≤ i
section
variable {w0 w w' : World} {b q : Nat} {F F' G G' : Nat → Prop} {d d' d2 : Dev} {r : Value} {e : Ending}
theorem Two.other (h : Two w0 w b F q G d d') {H : Nat → Prop} (ho : Only H w w') (h1 : ∀ i, F i → ¬ H i) (h2 : ∀ i, G i → ¬ H i) (h3 : ∀ i, H i → w0.heap.size ≤ i) : Two w0 w' b F q G d d' :=
  ⟨h.st.other ho h1 h3, h.doc.keep ho h2, h.apart, h.ge⟩
theorem Two.under (h : Two w0 w b F q G d d') (hb : Below w.heap.size w w') : Two w0 w' b F q G d d' :=
  h.other (H := fun _ => False) (Only.of_below hb _) (fun _ _ h => h) (fun _ _ h => h) (fun _ h => h.elim)
theorem Two.alloc (h : Two w0 w b F q G d d') (o : Obj) : Two w0 (w.alloc o) b F q G d d' :=
  h.other (H := fun _ => False) ((Only.refl _ _).alloc o) (fun _ _ h => h) (fun _ _ h => h) (fun _ h => h.elim)
theorem Two.new (h : Two w0 w b F q G d d') {H : Nat} (ho : Only (fun i => i = H) w w') (hH : w.heap.size ≤ H) : Two w0 w' b F q G d d' :=
  h.other ho (fun i hi e => by have := h.st.lt i hi; omega) (fun i hi e => by have := h.doc.lt i hi; omega) (fun i e => by have := h.st.below.size; omega)
/-- A step of the device. -/
theorem Two.dev (h : Two w0 w b F q G d d') (hp : DevPost w b F d2 r e w') : e = .returned r ∧ ∃ F', Two w0 w' b F' q G d2 d' ∧ (∀ i, F' i → F i ∨ w.heap.size ≤ i) ∧ Only F w w' := by
  obtain ⟨he, F', s', ho, hg⟩ := h.st.next hp
  refine ⟨he, F', ⟨s', h.doc.keep ho (fun i hi hf => h.apart i hf hi), fun i hi hgi => ?_, h.ge⟩, hg, ho⟩
  rcases hg i hi with h1 | h1
  · exact h.apart i h1 hgi
  · have := h.doc.lt i hgi; omega
/-- A step of the document's. -/
theorem Two.ref (h : Two w0 w b F q G d d') (hp : DocPost w q G d2 r e w') : e = .returned r ∧ ∃ G', Two w0 w' b F q G' d d2 ∧ (∀ i, G' i → G i ∨ w.heap.size ≤ i) ∧ Only G w w' := by
  obtain ⟨he, G', r', ho, hg⟩ := hp
  refine ⟨he, G', ⟨h.st.other ho h.apart h.ge, r', fun i hi hgi => ?_, fun i hi => ?_⟩, hg, ho⟩
  · rcases hg i hgi with h1 | h1
    · exact h.apart i hi h1
    · have := h.st.lt i hi; omega
  · rcases hg i hi with h1 | h1
    · exact h.ge i h1
    · have := h.st.below.size; omega
theorem Two.devSame (h : Two w0 w b F q G d d') (hr : DevRep w' b F d2) (ho : Only F w w') : Two w0 w' b F q G d2 d' :=
  ⟨h.st.keepRep hr ho, h.doc.keep ho (fun i hi hf => h.apart i hf hi), h.apart, h.ge⟩
theorem Two.refSame (h : Two w0 w b F q G d d') (hr : DocRep w' q G d2) (ho : Only G w w') : Two w0 w' b F q G d d2 :=
  ⟨h.st.other ho h.apart h.ge, hr, h.apart, h.ge⟩
theorem Two.docBelow (h : Two w0 w b F q G d d') : Below w0.heap.size w0 w := h.st.below
end
theorem Two.drew {w0 w : World} {b q : Nat} {F G : Nat → Prop} {d d' : Dev} (h : Two w0 w b F q G d d') : Two w0 w.drew b F q G d d' := ⟨h.st.drew, h.doc, h.apart, h.ge⟩
theorem Two.drewN {w0 w : World} {b q : Nat} {F G : Nat → Prop} {d d' : Dev} (h : Two w0 w b F q G d d') (n : Nat) : Two w0 (w.drewN n) b F q G d d' := by
  have hb : Below w.heap.size w (w.drewN n) := ⟨rfl, rfl, rfl, Nat.le_refl _, fun _ _ => rfl⟩
  exact ⟨⟨h.st.rep, h.st.below.trans (hb.mono h.st.below.size), h.st.ge⟩, h.doc, h.apart, h.ge⟩
theorem DocRep.cells {w : World} {q : Nat} {G : Nat → Prop} {d : Dev} (h : DocRep w q G d) : w.cell? ⟨q, 4, none⟩ = some (.bool d.down) ∧ ∃ k, w.cell? ⟨q, 0, none⟩ = some (.slice (some ⟨k, 0, none⟩) d.kept.length d.kept.length) := by
  obtain ⟨k, wv, m, hi, _, _⟩ := h
  exact ⟨(hi.1.cell 4).trans rfl, k, (hi.1.cell 0).trans rfl⟩
theorem sync_few (d : Dev) : d.sync.1.written.length ≤ d.written.length := by
  unfold Dev.sync
  split
  · exact Nat.le_refl _
  · simp
theorem act_kinds (k : Int) : k = 0 ∨ k = 1 ∨ k = 3 ∨ k = 4 ∨ (k ≠ 0 ∧ k ≠ 1 ∧ k ≠ 3 ∧ k ≠ 4) := by omega
set_option maxHeartbeats 1000000 in
set_option maxRecDepth 100000 in
theorem runs_skip (w : World) (n : Int) (A : Option Addr) (na ca : Nat) (hn : 40 < n ∨ 150 < na) :
    Calls Try.prog 6 #[.int .i64 n, .slice A na ca] w fun e w' => e = .returned (.bool true) ∧ Below w.heap.size w w' := by
  by_cases h0 : 40 < n
  · go_enter Try.func6, Try.ntmps6
    go_wp2_with (go_at_call 14; refine (alive_any _).mono ?_; rintro e w1 ⟨rfl, hb1⟩)
    go_ret
    exact ⟨rfl, hb1⟩
  · have h0' : n ≤ 40 := by omega
    have h1' : (150 : Int) < (na : Int) := by omega
    go_enter Try.func6, Try.ntmps6
    go_wp2_with (go_at_call 14; refine (alive_any _).mono ?_; rintro e w1 ⟨rfl, hb1⟩)
    go_ret
    exact ⟨rfl, hb1⟩
end Go.Proofs.Ytjipgimnhkliaaa
