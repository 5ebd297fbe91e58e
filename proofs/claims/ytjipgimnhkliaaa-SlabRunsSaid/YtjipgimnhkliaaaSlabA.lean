/-
  The device in memory, and the contracts of its small methods.
-/
import Derived.Test.YtjipgimnhkliaaaProg
import Derived.Test.YtjipgimnhkliaaaBase
namespace Go.Proofs.Ytjipgimnhkliaaa
open Go.RowKit

abbrev Slb := List Int
def enc (s : Slb) : List Value := s.map (Value.int .u8 ·)
structure Dev where
  kept : List Slb
  seen : List Slb
  written : List (Nat × Slb)
  budget : Int
  down : Bool
def rows (l : List Slb) : List Value := l.flatMap enc
def wcells (l : List (Nat × Slb)) : List Value := l.flatMap fun p => Value.int .i64 (p.1 : Int) :: enc p.2
structure Dev.Good (d : Dev) : Prop where
  seen : d.seen.length = d.kept.length
  few : d.kept.length ≤ 4096
  k128 : ∀ s ∈ d.kept, s.length = 128
  s128 : ∀ s ∈ d.seen, s.length = 128
  wat : ∀ p ∈ d.written, p.1 < d.kept.length ∧ p.2.length = 128
  lo : -1 ≤ d.budget
  hi : d.budget ≤ 9223372036854775807

/-- Where it lies: the struct, the kept slabs, the seen ones, what was written. -/
def DevIn (w : World) (b k s : Nat) (wv : Value) (d : Dev) : Prop :=
  Blk w b 88 [.slice (some ⟨k, 0, none⟩) d.kept.length d.kept.length, .slice (some ⟨s, 0, none⟩) d.kept.length d.kept.length, wv, .int .i64 d.budget, .bool d.down] ∧
  Blk w k 33 (rows d.kept) ∧ Blk w s 33 (rows d.seen) ∧
  w.ownsRow 0 91 129 wv d.written.length (wcells d.written) ∧ k ≠ s
def DevRep (w : World) (b : Nat) (F : Nat → Prop) (d : Dev) : Prop :=
  ∃ k s wv, DevIn w b k s wv d ∧ d.Good ∧ F = (fun i => i = b ∨ i = k ∨ i = s ∨ wv.ownBlock = some i)

section
variable {w w' : World} {b k s : Nat} {wv : Value} {d : Dev} {F : Nat → Prop}
theorem DevIn.lt (h : DevIn w b k s wv d) : ∀ i, (i = b ∨ i = k ∨ i = s ∨ wv.ownBlock = some i) → i < w.heap.size := by
  rintro i (rfl | rfl | rfl | hi)
  · exact h.1.lt
  · exact h.2.1.lt
  · exact h.2.2.1.lt
  · exact (h.2.2.2.1.lt i hi).2
theorem DevRep.lt (h : DevRep w b F d) : ∀ i, F i → i < w.heap.size := by
  obtain ⟨k, s, wv, hi, _, rfl⟩ := h
  exact hi.lt
theorem DevIn.keep (h : DevIn w b k s wv d) {G : Nat → Prop} (ho : Only G w w') (hg : ∀ i, (i = b ∨ i = k ∨ i = s ∨ wv.ownBlock = some i) → ¬ G i) : DevIn w' b k s wv d :=
  ⟨ho.blk h.1 (hg _ (.inl rfl)), ho.blk h.2.1 (hg _ (.inr (.inl rfl))), ho.blk h.2.2.1 (hg _ (.inr (.inr (.inl rfl)))), ho.own h.2.2.2.1 (fun g e => hg g (.inr (.inr (.inr e)))), h.2.2.2.2⟩
theorem DevRep.keep (h : DevRep w b F d) {G : Nat → Prop} (ho : Only G w w') (hg : ∀ i, F i → ¬ G i) : DevRep w' b F d := by
  obtain ⟨k, s, wv, hi, hG, rfl⟩ := h
  exact ⟨k, s, wv, hi.keep ho hg, hG, rfl⟩
theorem DevRep.alloc (h : DevRep w b F d) (o : Obj) : DevRep (w.alloc o) b F d := h.keep (G := fun _ => False) ((Only.refl _ _).alloc o) (fun _ _ h => h)
theorem DevRep.good (h : DevRep w b F d) : d.Good := by obtain ⟨_, _, _, _, hG, _⟩ := h; exact hG
theorem DevRep.here (h : DevRep w b F d) : F b := by obtain ⟨_, _, _, _, _, rfl⟩ := h; exact .inl rfl
/-- The blocks are four. -/
theorem DevIn.ne (h : DevIn w b k s wv d) : k ≠ s ∧ b ≠ k ∧ b ≠ s ∧ wv.ownBlock ≠ some b ∧ wv.ownBlock ≠ some k ∧ wv.ownBlock ≠ some s := by
  obtain ⟨h1, h2, h3, h4, h5⟩ := h
  have two : ∀ {g : Nat} {t t' : TypeId} {c c' : List Value}, Blk w g t c → Blk w g t' c' → t = t' := fun p q => by
    have := Option.some.inj (p.symm.trans q); injection this
  have own : ∀ {g : Nat} {t : TypeId} {c : List Value}, Blk w g t c → wv.ownBlock = some g → t = 91 := fun {g t c} p e => by
    rcases h4.2 with ⟨rfl, _⟩ | ⟨g', cap, cur, rfl, _, hh, _⟩
    · simp [Value.ownBlock] at e
    · have : g' = g := by simpa [Value.ownBlock] using e
      subst this
      have := Option.some.inj (p.symm.trans hh); injection this
  refine ⟨h5, ?_, ?_, ?_, ?_, ?_⟩
  · rintro rfl; exact absurd (two h1 h2) (by decide)
  · rintro rfl; exact absurd (two h1 h3) (by decide)
  · intro e; exact absurd (own h1 e) (by decide)
  · intro e; exact absurd (own h2 e) (by decide)
  · intro e; exact absurd (own h3 e) (by decide)
end

/-- What every method's contract says behind the call. -/
def DevPost (w : World) (b : Nat) (F : Nat → Prop) (d' : Dev) (r : Value) (e : Ending) (w' : World) : Prop :=
  e = .returned r ∧ ∃ F', DevRep w' b F' d' ∧ Only F w w' ∧ ∀ i, F' i → F i ∨ w.heap.size ≤ i

def Dev.has (d : Dev) (at_ : Int) : Bool := decide (0 ≤ at_) && decide (at_ < (d.kept.length : Int))
def Dev.stops (d : Dev) : Bool := d.down || d.budget == 0
/-- 'may': the device behind it. -/
def Dev.after (d : Dev) : Dev := { d with down := d.stops, budget := if !d.stops && decide (0 < d.budget) then d.budget - 1 else d.budget }

set_option maxHeartbeats 400000 in
theorem has_any (w : World) (b : Nat) (F : Nat → Prop) (d : Dev) (at_ : Int) (h : DevRep w b F d) :
    Calls Try.prog 48 #[.pointer (some ⟨b, 0, none⟩), .int .i64 at_] w fun e w' => e = .returned (.bool (d.has at_)) ∧ w = w' := by
  obtain ⟨k, s, wv, hi, hG, rfl⟩ := h
  have hc : w.cell? ⟨b, 1, none⟩ = some (.slice (some ⟨s, 0, none⟩) d.kept.length d.kept.length) := by rw [hi.1.cell]; rfl
  have hF : d.has at_ = (decide (0 ≤ at_) && decide (at_ < (d.kept.length : Int))) := rfl
  rw [hF]
  clear hi hG hF
  go_enter Try.func48, Try.ntmps48
  go_wp2
  all_goals (go_ret; simp_all)
  all_goals omega

def MayPost (w : World) (b : Nat) (d : Dev) (e : Ending) (w' : World) : Prop :=
  e = .returned (.bool (!d.stops)) ∧ w' = (w.setCell ⟨b, 4, none⟩ (.bool d.after.down)).setCell ⟨b, 3, none⟩ (.int .i64 d.after.budget)
theorem setCell_same (w : World) (b i : Nat) (t : TypeId) (cs : List Value) (v : Value) (h : Blk w b t cs) (hv : cs[i]? = some v) : w.setCell ⟨b, i, none⟩ v = w := by
  have hl : i < cs.length := (List.getElem?_eq_some_iff.1 hv).1
  have hs : cs.set i v = cs := by
    rw [List.getElem?_eq_getElem hl] at hv
    injection hv with hv
    subst hv
    simp
  have e : (w.setCell ⟨b, i, none⟩ v).heap = w.heap := by
    refine Array.ext_getElem? fun j => ?_
    by_cases hj : j = b
    · subst hj
      have h1 := h.set_ i v
      rw [hs] at h1
      exact h1.trans h.symm
    · exact Below.heap_setCell _ _ _ _ hj
  have : w.setCell ⟨b, i, none⟩ v = { w with heap := (w.setCell ⟨b, i, none⟩ v).heap } := rfl
  rw [this, e]
set_option maxHeartbeats 400000 in
theorem may_cells (w : World) (b : Nat) (d : Dev) (t : TypeId) (x0 x1 x2 : Value) (hb : Blk w b t [x0, x1, x2, .int .i64 d.budget, .bool d.down]) (h0 : -1 ≤ d.budget) (hm : d.budget ≤ 9223372036854775807) :
    Calls Try.prog 49 #[.pointer (some ⟨b, 0, none⟩)] w (MayPost w b d) := by
  have h3 : w.cell? ⟨b, 3, none⟩ = some (.int .i64 d.budget) := by rw [hb.cell]; rfl
  have h4 : w.cell? ⟨b, 4, none⟩ = some (.bool d.down) := by rw [hb.cell]; rfl
  have f3 := hb.frozen 3
  have f4 := hb.frozen 4
  obtain ⟨kp, sn, wr, bd, dn⟩ := d
  simp only at h3 h4 hb h0 hm
  have hB := hide hb
  clear hb
  by_cases hd : dn = true
  · subst hd
    have hp : ∀ e w', MayPost w b ⟨kp, sn, wr, bd, true⟩ e w' ↔ (e = .returned (.bool false) ∧ w' = w.setCell ⟨b, 4, none⟩ (.bool true)) := fun e w' => by
      have : (w.setCell ⟨b, 4, none⟩ (.bool true)).setCell ⟨b, 3, none⟩ (.int .i64 bd) = w.setCell ⟨b, 4, none⟩ (.bool true) := setCell_same _ b 3 t _ _ (hB.out.set_ 4 _) rfl
      simp [MayPost, Dev.stops, Dev.after, this]
    have : Calls Try.prog 49 #[.pointer (some ⟨b, 0, none⟩)] w (fun e w' => e = .returned (.bool false) ∧ w' = w.setCell ⟨b, 4, none⟩ (.bool true)) := by
      go_enter Try.func49, Try.ntmps49
      go_wp2
      all_goals (go_ret; exact ⟨rfl, rfl⟩)
    exact this.mono fun e w' h => (hp e w').2 h
  · have hd' : dn = false := by simpa using hd
    subst hd'
    by_cases hz : bd = 0
    · subst hz
      have hp : ∀ e w', MayPost w b ⟨kp, sn, wr, 0, false⟩ e w' ↔ (e = .returned (.bool false) ∧ w' = w.setCell ⟨b, 4, none⟩ (.bool true)) := fun e w' => by
        have : (w.setCell ⟨b, 4, none⟩ (.bool true)).setCell ⟨b, 3, none⟩ (.int .i64 0) = w.setCell ⟨b, 4, none⟩ (.bool true) := setCell_same _ b 3 t _ _ (hB.out.set_ 4 _) rfl
        simp [MayPost, Dev.stops, Dev.after, this]
      have : Calls Try.prog 49 #[.pointer (some ⟨b, 0, none⟩)] w (fun e w' => e = .returned (.bool false) ∧ w' = w.setCell ⟨b, 4, none⟩ (.bool true)) := by
        go_enter Try.func49, Try.ntmps49
        go_wp2
        all_goals (go_ret; exact ⟨rfl, rfl⟩)
      exact this.mono fun e w' h => (hp e w').2 h
    · have hz' : (bd == 0) = false := by simpa using hz
      by_cases hpos : 0 < bd
      · have hp : ∀ e w', MayPost w b ⟨kp, sn, wr, bd, false⟩ e w' ↔ (e = .returned (.bool true) ∧ w' = (w.setCell ⟨b, 4, none⟩ (.bool false)).setCell ⟨b, 3, none⟩ (.int .i64 (bd - 1))) := fun e w' => by
          simp [MayPost, Dev.stops, Dev.after, hz', hpos]
        have : Calls Try.prog 49 #[.pointer (some ⟨b, 0, none⟩)] w (fun e w' => e = .returned (.bool true) ∧ w' = (w.setCell ⟨b, 4, none⟩ (.bool false)).setCell ⟨b, 3, none⟩ (.int .i64 (bd - 1))) := by
          clear hp
          go_enter Try.func49, Try.ntmps49
          go_wp2
          all_goals (go_ret; exact ⟨rfl, rfl⟩)
        exact this.mono fun e w' h => (hp e w').2 h
      · have hp : ∀ e w', MayPost w b ⟨kp, sn, wr, bd, false⟩ e w' ↔ (e = .returned (.bool true) ∧ w' = w.setCell ⟨b, 4, none⟩ (.bool false)) := fun e w' => by
          have : (w.setCell ⟨b, 4, none⟩ (.bool false)).setCell ⟨b, 3, none⟩ (.int .i64 bd) = w.setCell ⟨b, 4, none⟩ (.bool false) := setCell_same _ b 3 t _ _ (hB.out.set_ 4 _) rfl
          simp [MayPost, Dev.stops, Dev.after, hz', hpos, this]
        have : Calls Try.prog 49 #[.pointer (some ⟨b, 0, none⟩)] w (fun e w' => e = .returned (.bool true) ∧ w' = w.setCell ⟨b, 4, none⟩ (.bool false)) := by
          clear hp
          go_enter Try.func49, Try.ntmps49
          go_wp2
          all_goals (go_ret; exact ⟨rfl, rfl⟩)
        exact this.mono fun e w' h => (hp e w').2 h

theorem Dev.Good.after {d : Dev} (h : d.Good) : d.after.Good := by
  have := h.lo; have := h.hi
  refine ⟨h.seen, h.few, h.k128, h.s128, h.wat, ?_, ?_⟩
  · simp only [Dev.after]; split
    · rename_i hh; simp only [Bool.and_eq_true, decide_eq_true_eq] at hh; omega
    · omega
  · simp only [Dev.after]; split <;> omega
theorem may_any (w : World) (b : Nat) (F : Nat → Prop) (d : Dev) (h : DevRep w b F d) :
    Calls Try.prog 49 #[.pointer (some ⟨b, 0, none⟩)] w fun e w' => e = .returned (.bool (!d.stops)) ∧ DevRep w' b F d.after ∧ Only F w w' := by
  obtain ⟨k, s, wv, hi, hG, rfl⟩ := h
  refine (may_cells w b d _ _ _ _ hi.1 hG.lo hG.hi).mono ?_
  rintro e w' ⟨rfl, rfl⟩
  have hn := hi.ne
  refine ⟨rfl, ⟨k, s, wv, ?_, hG.after, rfl⟩, (((Only.refl _ _).setCell (p := ⟨b, 4, none⟩) (.inr (.inl rfl)) _).setCell (p := ⟨b, 3, none⟩) (.inr (.inl rfl)) _)⟩
  refine ⟨(hi.1.set_ 4 _).set_ 3 _, (hi.2.1.far (p := ⟨b, 4, none⟩) (Ne.symm hn.2.1) _).far (p := ⟨b, 3, none⟩) (Ne.symm hn.2.1) _, (hi.2.2.1.far (p := ⟨b, 4, none⟩) (Ne.symm hn.2.2.1) _).far (p := ⟨b, 3, none⟩) (Ne.symm hn.2.2.1) _, ?_, hi.2.2.2.2⟩
  have ho : Only (fun i => i = b) w ((w.setCell ⟨b, 4, none⟩ (.bool d.after.down)).setCell ⟨b, 3, none⟩ (.int .i64 d.after.budget)) := ((Only.refl (fun i => i = b) w).setCell (p := ⟨b, 4, none⟩) (.inr rfl) _).setCell (p := ⟨b, 3, none⟩) (.inr rfl) _
  exact ho.own hi.2.2.2.1 (fun g e hg => hn.2.2.2.1 (hg ▸ e))
end Go.Proofs.Ytjipgimnhkliaaa
