/-
  The document's device in memory (bynameref13), told by the same Dev; spend, Limit, New.
-/
import Derived.Test.YtjipgimnhkliaaaSlabG
import Derived.Test.YtjipgimnhkliaaaSlabP
namespace Go.Proofs.Ytjipgimnhkliaaa
open Go.RowKit

/-- Where the document's device lies: the struct, the kept slabs, what was written. -/
def DocIn (w : World) (b k : Nat) (wv : Value) (m : Int) (d : Dev) : Prop :=
  Blk w b 56 [.slice (some ⟨k, 0, none⟩) d.kept.length d.kept.length, wv, .int .i64 m, .bool (decide (0 ≤ d.budget)), .bool d.down] ∧
  Blk w k 33 (rows d.kept) ∧
  w.ownsRow 0 94 129 wv d.written.length (wcells d.written) ∧ (0 ≤ d.budget → m = d.budget)
def DocRep (w : World) (b : Nat) (F : Nat → Prop) (d : Dev) : Prop :=
  ∃ k wv m, DocIn w b k wv m d ∧ d.Good ∧ F = (fun i => i = b ∨ i = k ∨ wv.ownBlock = some i)
section
variable {w w' : World} {b k : Nat} {wv : Value} {d : Dev} {m : Int} {F : Nat → Prop}
theorem DocIn.lt (h : DocIn w b k wv m d) : ∀ i, (i = b ∨ i = k ∨ wv.ownBlock = some i) → i < w.heap.size := by
  rintro i (rfl | rfl | hi)
  · exact h.1.lt
  · exact h.2.1.lt
  · exact (h.2.2.1.lt i hi).2
theorem DocRep.lt (h : DocRep w b F d) : ∀ i, F i → i < w.heap.size := by
  obtain ⟨k, wv, m, hi, _, rfl⟩ := h
  exact hi.lt
theorem DocIn.keep (h : DocIn w b k wv m d) {G : Nat → Prop} (ho : Only G w w') (hg : ∀ i, (i = b ∨ i = k ∨ wv.ownBlock = some i) → ¬ G i) : DocIn w' b k wv m d :=
  ⟨ho.blk h.1 (hg _ (.inl rfl)), ho.blk h.2.1 (hg _ (.inr (.inl rfl))), ho.own h.2.2.1 (fun g e => hg g (.inr (.inr e))), h.2.2.2⟩
theorem DocRep.keep (h : DocRep w b F d) {G : Nat → Prop} (ho : Only G w w') (hg : ∀ i, F i → ¬ G i) : DocRep w' b F d := by
  obtain ⟨k, wv, m, hi, hG, rfl⟩ := h
  exact ⟨k, wv, m, hi.keep ho hg, hG, rfl⟩
theorem DocRep.alloc (h : DocRep w b F d) (o : Obj) : DocRep (w.alloc o) b F d := h.keep (G := fun _ => False) ((Only.refl _ _).alloc o) (fun _ _ h => h)
theorem DocRep.good (h : DocRep w b F d) : d.Good := by obtain ⟨_, _, _, _, hG, _⟩ := h; exact hG
theorem DocIn.ne (h : DocIn w b k wv m d) : b ≠ k ∧ wv.ownBlock ≠ some b ∧ wv.ownBlock ≠ some k := by
  obtain ⟨h1, h2, h4, h5⟩ := h
  have two : ∀ {g : Nat} {t t' : TypeId} {c c' : List Value}, Blk w g t c → Blk w g t' c' → t = t' := fun p q => by
    have := Option.some.inj (p.symm.trans q); injection this
  have own : ∀ {g : Nat} {t : TypeId} {c : List Value}, Blk w g t c → wv.ownBlock = some g → t = 94 := fun {g t c} p e => by
    rcases h4.2 with ⟨rfl, _⟩ | ⟨g', cap, cur, rfl, _, hh, _⟩
    · simp [Value.ownBlock] at e
    · have : g' = g := by simpa [Value.ownBlock] using e
      subst this
      have := Option.some.inj (p.symm.trans hh); injection this
  refine ⟨?_, ?_, ?_⟩
  · rintro rfl; exact absurd (two h1 h2) (by decide)
  · intro e; exact absurd (own h1 e) (by decide)
  · intro e; exact absurd (own h2 e) (by decide)
end
/-- What every function's contract says behind the call. -/
def DocPost (w : World) (b : Nat) (F : Nat → Prop) (d' : Dev) (r : Value) (e : Ending) (w' : World) : Prop :=
  e = .returned r ∧ ∃ F', DocRep w' b F' d' ∧ Only F w w' ∧ ∀ i, F' i → F i ∨ w.heap.size ≤ i

def SpendPost (w : World) (b : Nat) (d : Dev) (e : Ending) (w' : World) : Prop :=
  e = .returned (.bool (!d.stops)) ∧ ((d.budget < 0 ∨ d.down = true ∧ 0 < d.budget) ∧ w' = w ∨ d.budget = 0 ∧ w' = w.setCell ⟨b, 4, none⟩ (.bool true) ∨ (d.down = false ∧ 0 < d.budget) ∧ w' = w.setCell ⟨b, 2, none⟩ (.int .i64 (d.budget - 1)))
set_option maxHeartbeats 400000 in
theorem spend_cells (w : World) (b : Nat) (d : Dev) (t : TypeId) (m : Int) (x0 x1 : Value) (hb : Blk w b t [x0, x1, .int .i64 m, .bool (decide (0 ≤ d.budget)), .bool d.down]) (hm : 0 ≤ d.budget → m = d.budget) (hi : d.budget ≤ 9223372036854775807) :
    Calls Try.prog 50 #[.pointer (some ⟨b, 0, none⟩)] w (SpendPost w b d) := by
  have h2 : w.cell? ⟨b, 2, none⟩ = some (.int .i64 m) := by rw [hb.cell]; rfl
  have h3 : w.cell? ⟨b, 3, none⟩ = some (.bool (decide (0 ≤ d.budget))) := by rw [hb.cell]; rfl
  have h4 : w.cell? ⟨b, 4, none⟩ = some (.bool d.down) := by rw [hb.cell]; rfl
  have f2 := hb.frozen 2
  have f4 := hb.frozen 4
  obtain ⟨kp, sn, wr, bd, dn⟩ := d
  simp only at h3 h4 hm hi
  clear hb
  by_cases hneg : bd < 0
  · have e3 : decide (0 ≤ bd) = false := by simpa using hneg
    rw [e3] at h3
    have hz : (bd == 0) = false := by simp; omega
    have hp : Hid (∀ e w', (e = .returned (.bool (!dn)) ∧ w' = w) → SpendPost w b ⟨kp, sn, wr, bd, dn⟩ e w') := by
      rintro e w' ⟨rfl, rfl⟩
      exact ⟨by simp [Dev.stops, hz], .inl ⟨.inl hneg, rfl⟩⟩
    clear e3 hz hm hi
    refine Calls.mono ?_ hp.out
    cases dn
    all_goals
      go_enter Try.func50, Try.ntmps50
      go_wp2
      go_ret
      exact ⟨rfl, rfl⟩
  · have e3 : decide (0 ≤ bd) = true := by simp; omega
    rw [e3] at h3
    have e2 := hm (by omega)
    subst e2
    by_cases hz : m = 0
    · subst hz
      have hp : Hid (∀ e w', (e = .returned (.bool false) ∧ w' = w.setCell ⟨b, 4, none⟩ (.bool true)) → SpendPost w b ⟨kp, sn, wr, 0, dn⟩ e w') := by
        rintro e w' ⟨rfl, rfl⟩
        exact ⟨by simp [Dev.stops], .inr (.inl ⟨rfl, rfl⟩)⟩
      refine Calls.mono ?_ hp.out
      cases dn
      all_goals
        go_enter Try.func50, Try.ntmps50
        go_wp2
        go_ret
        exact ⟨rfl, rfl⟩
    · have hz' : (m == 0) = false := by simpa using hz
      have hpos : 0 < m := by omega
      cases dn
      · have hp : Hid (∀ e w', (e = .returned (.bool true) ∧ w' = w.setCell ⟨b, 2, none⟩ (.int .i64 (m - 1))) → SpendPost w b ⟨kp, sn, wr, m, false⟩ e w') := by
          rintro e w' ⟨rfl, rfl⟩
          exact ⟨by simp [Dev.stops, hz'], .inr (.inr ⟨⟨rfl, hpos⟩, rfl⟩)⟩
        refine Calls.mono ?_ hp.out
        go_enter Try.func50, Try.ntmps50
        go_wp2
        go_ret
        exact ⟨rfl, rfl⟩
      · have hp : Hid (∀ e w', (e = .returned (.bool false) ∧ w' = w) → SpendPost w b ⟨kp, sn, wr, m, true⟩ e w') := by
          rintro e w' ⟨rfl, rfl⟩
          exact ⟨by simp [Dev.stops], .inl ⟨.inr ⟨rfl, hpos⟩, rfl⟩⟩
        refine Calls.mono ?_ hp.out
        go_enter Try.func50, Try.ntmps50
        go_wp2
        go_ret
        exact ⟨rfl, rfl⟩
theorem spend_any (w : World) (b : Nat) (F : Nat → Prop) (d : Dev) (h : DocRep w b F d) :
    Calls Try.prog 50 #[.pointer (some ⟨b, 0, none⟩)] w fun e w' => e = .returned (.bool (!d.stops)) ∧ DocRep w' b F d.after ∧ Only F w w' := by
  obtain ⟨k, wv, m, hi, hG, rfl⟩ := h
  refine (spend_cells w b d _ m _ _ hi.1 hi.2.2.2 hG.hi).mono ?_
  rintro e w' ⟨rfl, hw⟩
  have hn := hi.ne
  refine ⟨rfl, ?_⟩
  rcases hw with ⟨hc, rfl⟩ | ⟨hc, rfl⟩ | ⟨⟨hc, hp⟩, rfl⟩
  · have e : d.after = d := by
      obtain ⟨kp, sn, wr, bd, dn⟩ := d
      simp only at hc
      rcases hc with hc | ⟨hc, hp⟩
      · have : (bd == 0) = false := by simp; omega
        have h2 : ¬ 0 < bd := by omega
        simp [Dev.after, Dev.stops, this, h2]
      · subst hc
        simp [Dev.after, Dev.stops]
    rw [e]
    exact ⟨⟨k, wv, m, hi, hG, rfl⟩, Only.refl _ _⟩
  · have o1 : Only (fun i => i = b) w (w.setCell ⟨b, 4, none⟩ (.bool true)) := (Only.refl (fun i => i = b) w).setCell (p := ⟨b, 4, none⟩) (.inr rfl) _
    have e : d.after = { d with down := true } := by simp [Dev.after, Dev.stops, hc]
    refine ⟨⟨k, wv, m, ⟨?_, o1.blk hi.2.1 (Ne.symm hn.1), o1.own hi.2.2.1 (fun g e hg => hn.2.1 (hg ▸ e)), by rw [e]; exact hi.2.2.2⟩, hG.after, rfl⟩, o1.mono (fun i _ h => .inl h)⟩
    rw [e]
    exact hi.1.set_ 4 _
  · have o1 : Only (fun i => i = b) w (w.setCell ⟨b, 2, none⟩ (.int .i64 (d.budget - 1))) := (Only.refl (fun i => i = b) w).setCell (p := ⟨b, 2, none⟩) (.inr rfl) _
    have hz : (d.budget == 0) = false := by simp; omega
    have e : d.after = { d with budget := d.budget - 1 } := by
      obtain ⟨kp, sn, wr, bd, dn⟩ := d
      simp only at hc hp hz
      subst hc
      simp [Dev.after, Dev.stops, hp, hz]
    refine ⟨⟨k, wv, d.budget - 1, ⟨?_, o1.blk (by rw [e]; exact hi.2.1) (Ne.symm hn.1), o1.own (by rw [e]; exact hi.2.2.1) (fun g e hg => hn.2.1 (hg ▸ e)), by rw [e]; exact fun _ => rfl⟩, hG.after, rfl⟩, o1.mono (fun i _ h => .inl h)⟩
    rw [e]
    have h1 : decide (0 ≤ d.budget) = true := by simp; omega
    have h2 : decide (0 ≤ d.budget - 1) = true := by simp; omega
    have := hi.1.set_ 2 (.int .i64 (d.budget - 1))
    rw [h1] at this
    show Blk _ b _ [_, _, _, .bool (decide (0 ≤ d.budget - 1)), _]
    rw [h2]
    exact this

set_option maxHeartbeats 400000 in
theorem limit_any (w : World) (b : Nat) (F : Nat → Prop) (d : Dev) (n : Int) (h : DocRep w b F d) (hn : n ≤ 9223372036854775807) :
    Calls Try.prog 27 #[.pointer (some ⟨b, 0, none⟩), .int .i64 n] w fun e w' => e = .returned (.tuple #[]) ∧ DocRep w' b F (d.limit n) ∧ Only F w w' := by
  obtain ⟨k, wv, m, hi, hG, rfl⟩ := h
  have c3 : w.cell? ⟨b, 3, none⟩ = some (.bool (decide (0 ≤ d.budget))) := by rw [hi.1.cell]; rfl
  have c2 : w.cell? ⟨b, 2, none⟩ = some (.int .i64 m) := by rw [hi.1.cell]; rfl
  have f3 := hi.1.frozen 3
  have f2 := hi.1.frozen 2
  have HI := hide hi
  clear hi
  have hfin : Hid (∀ v : Bool, v = decide (0 ≤ n) → DocRep ((w.setCell ⟨b, 3, none⟩ (.bool v)).setCell ⟨b, 2, none⟩ (.int .i64 n)) b (fun i => i = b ∨ i = k ∨ wv.ownBlock = some i) (d.limit n) ∧ Only (fun i => i = b ∨ i = k ∨ wv.ownBlock = some i) w ((w.setCell ⟨b, 3, none⟩ (.bool v)).setCell ⟨b, 2, none⟩ (.int .i64 n))) := by
    intro v hv
    have hi := HI.out
    have hne := hi.ne
    have o1 : Only (fun i => i = b) w ((w.setCell ⟨b, 3, none⟩ (.bool v)).setCell ⟨b, 2, none⟩ (.int .i64 n)) := ((Only.refl (fun i => i = b) w).setCell (p := ⟨b, 3, none⟩) (.inr rfl) _).setCell (p := ⟨b, 2, none⟩) (.inr rfl) _
    refine ⟨⟨k, wv, n, ⟨?_, o1.blk hi.2.1 (Ne.symm hne.1), o1.own hi.2.2.1 (fun g e hg => hne.2.1 (hg ▸ e)), ?_⟩, hG.budget n hn, rfl⟩, o1.mono (fun i _ h => .inl h)⟩
    · have e : decide (0 ≤ max n (-1)) = v := by rw [hv]; by_cases h0 : 0 ≤ n <;> simp [h0] <;> omega
      show Blk _ b _ [_, _, _, .bool (decide (0 ≤ max n (-1))), _]
      rw [e]
      exact (hi.1.set_ 3 _).set_ 2 _
    · intro h0
      have : (d.limit n).budget = max n (-1) := rfl
      omega
  go_enter Try.func27, Try.ntmps27
  go_wp2
  all_goals
    go_end0
    refine ⟨rfl, hfin.out _ ?_⟩
    first | rfl | (simp; omega) | simp_all
end Go.Proofs.Ytjipgimnhkliaaa
