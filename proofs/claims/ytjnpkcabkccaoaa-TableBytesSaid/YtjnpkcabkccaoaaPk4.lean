import Derived.Test.YtjnpkcabkccaoaaProg
import Derived.Test.YtjnpkcabkccaoaaPk1
/-
  The device in memory, and the contracts of its small methods.
-/
namespace Go.Proofs.Ytjnpkcabkccaoaa
open Go.RowKit

abbrev Slb := List Int
def enc (s : Slb) : List Value := s.map (Value.int .u8 ·)
structure Dev where
  kept : List Slb
  seen : List Slb
  written : List (Nat × Slb)
  budget : Int
  down : Bool
def rows (l : List Slb) : List Value := l.flatMap enc
def wcells (l : List (Nat × Slb)) : List Value := l.flatMap fun p => Value.int .i64 (p.1 : Int) :: enc p.2
structure Dev.Good (d : Dev) : Prop where
  seen : d.seen.length = d.kept.length
  few : d.kept.length ≤ 4096
  k128 : ∀ s ∈ d.kept, s.length = 128
  s128 : ∀ s ∈ d.seen, s.length = 128
  wat : ∀ p ∈ d.written, p.1 < d.kept.length ∧ p.2.length = 128
  lo : -1 ≤ d.budget
  hi : d.budget ≤ 9223372036854775807

/-- Where it lies: the struct, the kept slabs, the seen ones, what was written. -/
def DevIn (w : World) (b k s : Nat) (wv : Value) (d : Dev) : Prop :=
  Blk w b 122 [.slice (some ⟨k, 0, none⟩) d.kept.length d.kept.length, .slice (some ⟨s, 0, none⟩) d.kept.length d.kept.length, wv, .int .i64 d.budget, .bool d.down] ∧
  Blk w k 34 (rows d.kept) ∧ Blk w s 34 (rows d.seen) ∧
  w.ownsRow 0 125 129 wv d.written.length (wcells d.written) ∧ k ≠ s
def DevRep (w : World) (b : Nat) (F : Nat → Prop) (d : Dev) : Prop :=
  ∃ k s wv, DevIn w b k s wv d ∧ d.Good ∧ F = (fun i => i = b ∨ i = k ∨ i = s ∨ wv.ownBlock = some i)

section
variable {w w' : World} {b k s : Nat} {wv : Value} {d : Dev} {F : Nat → Prop}
theorem DevIn.lt (h : DevIn w b k s wv d) : ∀ i, (i = b ∨ i = k ∨ i = s ∨ wv.ownBlock = some i) → i < w.heap.size := by
  rintro i (rfl | rfl | rfl | hi)
  · exact h.1.lt
  · exact h.2.1.lt
  · exact h.2.2.1.lt
  · exact (h.2.2.2.1.lt i hi).2
theorem DevRep.lt (h : DevRep w b F d) : ∀ i, F i → i < w.heap.size := by
  obtain ⟨k, s, wv, hi, _, rfl⟩ := h
  exact hi.lt
theorem DevIn.keep (h : DevIn w b k s wv d) {G : Nat → Prop} (ho : Only G w w') (hg : ∀ i, (i = b ∨ i = k ∨ i = s ∨ wv.ownBlock = some i) → ¬ G i) : DevIn w' b k s wv d :=
  ⟨ho.blk h.1 (hg _ (.inl rfl)), ho.blk h.2.1 (hg _ (.inr (.inl rfl))), ho.blk h.2.2.1 (hg _ (.inr (.inr (.inl rfl)))), ho.own h.2.2.2.1 (fun g e => hg g (.inr (.inr (.inr e)))), h.2.2.2.2⟩
theorem DevRep.keep (h : DevRep w b F d) {G : Nat → Prop} (ho : Only G w w') (hg : ∀ i, F i → ¬ G i) : DevRep w' b F d := by
  obtain ⟨k, s, wv, hi, hG, rfl⟩ := h
  exact ⟨k, s, wv, hi.keep ho hg, hG, rfl⟩
theorem DevRep.alloc (h : DevRep w b F d) (o : Obj) : DevRep (w.alloc o) b F d := h.keep (G := fun _ => False) ((Only.refl _ _).alloc o) (fun _ _ h => h)
theorem DevRep.good (h : DevRep w b F d) : d.Good := by obtain ⟨_, _, _, _, hG, _⟩ := h; exact hG
theorem DevRep.here (h : DevRep w b F d) : F b := by obtain ⟨_, _, _, _, _, rfl⟩ := h; exact .inl rfl
/-- The blocks are four. -/
theorem DevIn.ne (h : DevIn w b k s wv d) : k ≠ s ∧ b ≠ k ∧ b ≠ s ∧ wv.ownBlock ≠ some b ∧ wv.ownBlock ≠ some k ∧ wv.ownBlock ≠ some s := by
  obtain ⟨h1, h2, h3, h4, h5⟩ := h
  have two : ∀ {g : Nat} {t t' : TypeId} {c c' : List Value}, Blk w g t c → Blk w g t' c' → t = t' := fun p q => by
    have := Option.some.inj (p.symm.trans q); injection this
  have own : ∀ {g : Nat} {t : TypeId} {c : List Value}, Blk w g t c → wv.ownBlock = some g → t = 125 := fun {g t c} p e => by
    rcases h4.2 with ⟨rfl, _⟩ | ⟨g', cap, cur, rfl, _, hh, _⟩
    · simp [Value.ownBlock] at e
    · have : g' = g := by simpa [Value.ownBlock] using e
      subst this
      have := Option.some.inj (p.symm.trans hh); injection this
  refine ⟨h5, ?_, ?_, ?_, ?_, ?_⟩
  · rintro rfl; exact absurd (two h1 h2) (by decide)
  · rintro rfl; exact absurd (two h1 h3) (by decide)
  · intro e; exact absurd (own h1 e) (by decide)
  · intro e; exact absurd (own h2 e) (by decide)
  · intro e; exact absurd (own h3 e) (by decide)
end

/-- What every method's contract says behind the call. -/
def DevPost (w : World) (b : Nat) (F : Nat → Prop) (d' : Dev) (r : Value) (e : Ending) (w' : World) : Prop :=
  e = .returned r ∧ ∃ F', DevRep w' b F' d' ∧ Only F w w' ∧ ∀ i, F' i → F i ∨ w.heap.size ≤ i

def Dev.has (d : Dev) (at_ : Int) : Bool := decide (0 ≤ at_) && decide (at_ < (d.kept.length : Int))
def Dev.stops (d : Dev) : Bool := d.down || d.budget == 0
/-- 'may': the device behind it. -/
def Dev.after (d : Dev) : Dev := { d with down := d.stops, budget := if !d.stops && decide (0 < d.budget) then d.budget - 1 else d.budget }

set_option maxHeartbeats 400000 in
theorem has_any (w : World) (b : Nat) (F : Nat → Prop) (d : Dev) (at_ : Int) (h : DevRep w b F d) :
    Calls Try.prog 77 #[.pointer (some ⟨b, 0, none⟩), .int .i64 at_] w fun e w' => e = .returned (.bool (d.has at_)) ∧ w = w' := by
  obtain ⟨k, s, wv, hi, hG, rfl⟩ := h
  have hc : w.cell? ⟨b, 1, none⟩ = some (.slice (some ⟨s, 0, none⟩) d.kept.length d.kept.length) := by rw [hi.1.cell]; rfl
  have hF : d.has at_ = (decide (0 ≤ at_) && decide (at_ < (d.kept.length : Int))) := rfl
  rw [hF]
  clear hi hG hF
  go_enter Try.func77, Try.ntmps77
  go_wp2
  all_goals (go_ret; simp_all)
  all_goals omega

def MayPost (w : World) (b : Nat) (d : Dev) (e : Ending) (w' : World) : Prop :=
  e = .returned (.bool (!d.stops)) ∧ w' = (w.setCell ⟨b, 4, none⟩ (.bool d.after.down)).setCell ⟨b, 3, none⟩ (.int .i64 d.after.budget)
theorem setCell_same (w : World) (b i : Nat) (t : TypeId) (cs : List Value) (v : Value) (h : Blk w b t cs) (hv : cs[i]? = some v) : w.setCell ⟨b, i, none⟩ v = w := by
  have hl : i < cs.length := (List.getElem?_eq_some_iff.1 hv).1
  have hs : cs.set i v = cs := by
    rw [List.getElem?_eq_getElem hl] at hv
    injection hv with hv
    subst hv
    simp
  have e : (w.setCell ⟨b, i, none⟩ v).heap = w.heap := by
    refine Array.ext_getElem? fun j => ?_
    by_cases hj : j = b
    · subst hj
      have h1 := h.set_ i v
      rw [hs] at h1
      exact h1.trans h.symm
    · exact Below.heap_setCell _ _ _ _ hj
  have : w.setCell ⟨b, i, none⟩ v = { w with heap := (w.setCell ⟨b, i, none⟩ v).heap } := rfl
  rw [this, e]
set_option maxHeartbeats 400000 in
theorem may_cells (w : World) (b : Nat) (d : Dev) (t : TypeId) (x0 x1 x2 : Value) (hb : Blk w b t [x0, x1, x2, .int .i64 d.budget, .bool d.down]) (h0 : -1 ≤ d.budget) (hm : d.budget ≤ 9223372036854775807) :
    Calls Try.prog 78 #[.pointer (some ⟨b, 0, none⟩)] w (MayPost w b d) := by
  have h3 : w.cell? ⟨b, 3, none⟩ = some (.int .i64 d.budget) := by rw [hb.cell]; rfl
  have h4 : w.cell? ⟨b, 4, none⟩ = some (.bool d.down) := by rw [hb.cell]; rfl
  have f3 := hb.frozen 3
  have f4 := hb.frozen 4
  obtain ⟨kp, sn, wr, bd, dn⟩ := d
  simp only at h3 h4 hb h0 hm
  have hB := hide hb
  clear hb
  by_cases hd : dn = true
  · subst hd
    have hp : ∀ e w', MayPost w b ⟨kp, sn, wr, bd, true⟩ e w' ↔ (e = .returned (.bool false) ∧ w' = w.setCell ⟨b, 4, none⟩ (.bool true)) := fun e w' => by
      have : (w.setCell ⟨b, 4, none⟩ (.bool true)).setCell ⟨b, 3, none⟩ (.int .i64 bd) = w.setCell ⟨b, 4, none⟩ (.bool true) := setCell_same _ b 3 t _ _ (hB.out.set_ 4 _) rfl
      simp [MayPost, Dev.stops, Dev.after, this]
    have : Calls Try.prog 78 #[.pointer (some ⟨b, 0, none⟩)] w (fun e w' => e = .returned (.bool false) ∧ w' = w.setCell ⟨b, 4, none⟩ (.bool true)) := by
      go_enter Try.func78, Try.ntmps78
      go_wp2
      all_goals (go_ret; exact ⟨rfl, rfl⟩)
    exact this.mono fun e w' h => (hp e w').2 h
  · have hd' : dn = false := by simpa using hd
    subst hd'
    by_cases hz : bd = 0
    · subst hz
      have hp : ∀ e w', MayPost w b ⟨kp, sn, wr, 0, false⟩ e w' ↔ (e = .returned (.bool false) ∧ w' = w.setCell ⟨b, 4, none⟩ (.bool true)) := fun e w' => by
        have : (w.setCell ⟨b, 4, none⟩ (.bool true)).setCell ⟨b, 3, none⟩ (.int .i64 0) = w.setCell ⟨b, 4, none⟩ (.bool true) := setCell_same _ b 3 t _ _ (hB.out.set_ 4 _) rfl
        simp [MayPost, Dev.stops, Dev.after, this]
      have : Calls Try.prog 78 #[.pointer (some ⟨b, 0, none⟩)] w (fun e w' => e = .returned (.bool false) ∧ w' = w.setCell ⟨b, 4, none⟩ (.bool true)) := by
        go_enter Try.func78, Try.ntmps78
        go_wp2
        all_goals (go_ret; exact ⟨rfl, rfl⟩)
      exact this.mono fun e w' h => (hp e w').2 h
    · have hz' : (bd == 0) = false := by simpa using hz
      by_cases hpos : 0 < bd
      · have hp : ∀ e w', MayPost w b ⟨kp, sn, wr, bd, false⟩ e w' ↔ (e = .returned (.bool true) ∧ w' = (w.setCell ⟨b, 4, none⟩ (.bool false)).setCell ⟨b, 3, none⟩ (.int .i64 (bd - 1))) := fun e w' => by
          simp [MayPost, Dev.stops, Dev.after, hz', hpos]
        have : Calls Try.prog 78 #[.pointer (some ⟨b, 0, none⟩)] w (fun e w' => e = .returned (.bool true) ∧ w' = (w.setCell ⟨b, 4, none⟩ (.bool false)).setCell ⟨b, 3, none⟩ (.int .i64 (bd - 1))) := by
          clear hp
          go_enter Try.func78, Try.ntmps78
          go_wp2
          all_goals (go_ret; exact ⟨rfl, rfl⟩)
        exact this.mono fun e w' h => (hp e w').2 h
      · have hp : ∀ e w', MayPost w b ⟨kp, sn, wr, bd, false⟩ e w' ↔ (e = .returned (.bool true) ∧ w' = w.setCell ⟨b, 4, none⟩ (.bool false)) := fun e w' => by
          have : (w.setCell ⟨b, 4, none⟩ (.bool false)).setCell ⟨b, 3, none⟩ (.int .i64 bd) = w.setCell ⟨b, 4, none⟩ (.bool false) := setCell_same _ b 3 t _ _ (hB.out.set_ 4 _) rfl
          simp [MayPost, Dev.stops, Dev.after, hz', hpos, this]
        have : Calls Try.prog 78 #[.pointer (some ⟨b, 0, none⟩)] w (fun e w' => e = .returned (.bool true) ∧ w' = w.setCell ⟨b, 4, none⟩ (.bool false)) := by
          clear hp
          go_enter Try.func78, Try.ntmps78
          go_wp2
          all_goals (go_ret; exact ⟨rfl, rfl⟩)
        exact this.mono fun e w' h => (hp e w').2 h

theorem Dev.Good.after {d : Dev} (h : d.Good) : d.after.Good := by
  have := h.lo; have := h.hi
  refine ⟨h.seen, h.few, h.k128, h.s128, h.wat, ?_, ?_⟩
  · simp only [Dev.after]; split
    · rename_i hh; simp only [Bool.and_eq_true, decide_eq_true_eq] at hh; omega
    · omega
  · simp only [Dev.after]; split <;> omega
theorem may_any (w : World) (b : Nat) (F : Nat → Prop) (d : Dev) (h : DevRep w b F d) :
    Calls Try.prog 78 #[.pointer (some ⟨b, 0, none⟩)] w fun e w' => e = .returned (.bool (!d.stops)) ∧ DevRep w' b F d.after ∧ Only F w w' := by
  obtain ⟨k, s, wv, hi, hG, rfl⟩ := h
  refine (may_cells w b d _ _ _ _ hi.1 hG.lo hG.hi).mono ?_
  rintro e w' ⟨rfl, rfl⟩
  have hn := hi.ne
  refine ⟨rfl, ⟨k, s, wv, ?_, hG.after, rfl⟩, (((Only.refl _ _).setCell (p := ⟨b, 4, none⟩) (.inr (.inl rfl)) _).setCell (p := ⟨b, 3, none⟩) (.inr (.inl rfl)) _)⟩
  refine ⟨(hi.1.set_ 4 _).set_ 3 _, (hi.2.1.far (p := ⟨b, 4, none⟩) (Ne.symm hn.2.1) _).far (p := ⟨b, 3, none⟩) (Ne.symm hn.2.1) _, (hi.2.2.1.far (p := ⟨b, 4, none⟩) (Ne.symm hn.2.2.1) _).far (p := ⟨b, 3, none⟩) (Ne.symm hn.2.2.1) _, ?_, hi.2.2.2.2⟩
  have ho : Only (fun i => i = b) w ((w.setCell ⟨b, 4, none⟩ (.bool d.after.down)).setCell ⟨b, 3, none⟩ (.int .i64 d.after.budget)) := ((Only.refl (fun i => i = b) w).setCell (p := ⟨b, 4, none⟩) (.inr rfl) _).setCell (p := ⟨b, 3, none⟩) (.inr rfl) _
  exact ho.own hi.2.2.2.1 (fun g e hg => hn.2.2.2.1 (hg ▸ e))
end Go.Proofs.Ytjnpkcabkccaoaa
/-
  The device: Write.
-/
namespace Go.Proofs.Ytjnpkcabkccaoaa
open Go.RowKit

/-! ### Rows of slabs as cells -/
theorem enc_length (s : Slb) : (enc s).length = s.length := by simp [enc]
theorem enc_one (s : Slb) : ∀ v ∈ enc s, v.oneCell' = true := by
  intro v hv
  simp only [enc, List.mem_map] at hv
  obtain ⟨x, _, rfl⟩ := hv
  rfl
theorem cons_one (n : Int) (s : Slb) : ∀ v ∈ Value.int .i64 n :: enc s, v.oneCell' = true := by
  intro v hv
  rcases List.mem_cons.1 hv with rfl | h
  · rfl
  · exact enc_one s v h
theorem rows_length : ∀ (l : List Slb), (∀ s ∈ l, s.length = 128) → (rows l).length = l.length * 128
  | [], _ => rfl
  | s :: l, h => by
    have h1 := h s (by simp)
    have h2 := rows_length l (fun t ht => h t (by simp [ht]))
    have : rows (s :: l) = enc s ++ rows l := rfl
    rw [this, List.length_append, enc_length, h1, h2]; simp; omega
theorem rows_get : ∀ (l : List Slb) (k : Nat) (s : Slb), (∀ s ∈ l, s.length = 128) → l[k]? = some s → ∀ (j : Nat) (v : Value), (enc s)[j]? = some v → (rows l)[k * 128 + j]? = some v
  | [], _, _, _, h => by simp at h
  | t :: l, 0, s, _, h => by
    intro j v hv
    simp at h; subst h
    have : rows (t :: l) = enc t ++ rows l := rfl
    rw [this, Nat.zero_mul, Nat.zero_add, List.getElem?_append_left (List.getElem?_eq_some_iff.1 hv).1, hv]
  | t :: l, k + 1, s, h128, h => by
    intro j v hv
    have h1 := h128 t (by simp)
    have : rows (t :: l) = enc t ++ rows l := rfl
    rw [this, List.getElem?_append_right (by rw [enc_length, h1]; omega), enc_length, h1]
    rw [show (k + 1) * 128 + j - 128 = k * 128 + j by omega]
    exact rows_get l k s (fun t ht => h128 t (by simp [ht])) (by simpa using h) j v hv
theorem rows_take : ∀ (l : List Slb) (k : Nat), (∀ s ∈ l, s.length = 128) → k ≤ l.length → (rows l).take (k * 128) = rows (l.take k)
  | _, 0, _, _ => by simp [rows]
  | [], _ + 1, _, h => by simp at h
  | t :: l, k + 1, h128, h => by
    have h1 := h128 t (by simp)
    have e : rows (t :: l) = enc t ++ rows l := rfl
    have e2 : rows ((t :: l).take (k + 1)) = enc t ++ rows (l.take k) := rfl
    rw [e, e2, List.take_append, enc_length, h1, List.take_of_length_le (by rw [enc_length, h1]; omega), show (k + 1) * 128 - 128 = k * 128 by omega,
      rows_take l k (fun t ht => h128 t (by simp [ht])) (by simpa using h)]
theorem rows_drop : ∀ (l : List Slb) (k : Nat), (∀ s ∈ l, s.length = 128) → k ≤ l.length → (rows l).drop (k * 128) = rows (l.drop k)
  | _, 0, _, _ => by simp
  | [], _ + 1, _, h => by simp at h
  | t :: l, k + 1, h128, h => by
    have h1 := h128 t (by simp)
    have e : rows (t :: l) = enc t ++ rows l := rfl
    have e2 : rows ((t :: l).drop (k + 1)) = rows (l.drop k) := rfl
    rw [e, e2, List.drop_append, enc_length, h1, List.drop_of_length_le (by rw [enc_length, h1]; omega), show (k + 1) * 128 - 128 = k * 128 by omega, List.nil_append,
      rows_drop l k (fun t ht => h128 t (by simp [ht])) (by simpa using h)]
theorem rows_append (a b : List Slb) : rows (a ++ b) = rows a ++ rows b := by simp [rows]
theorem rows_set (l : List Slb) (k : Nat) (s : Slb) (h128 : ∀ s ∈ l, s.length = 128) (hs : s.length = 128) (hk : k < l.length) : lay (rows l) (k * 128) (enc s) = rows (l.set k s) := by
  have hl := rows_length l h128
  rw [lay_eq _ _ _ (by rw [hl, enc_length, hs]; omega), rows_take l k h128 (by omega), enc_length, hs, show k * 128 + 128 = (k + 1) * 128 by omega, rows_drop l (k + 1) h128 (by omega)]
  rw [List.set_eq_take_append_cons_drop, if_pos hk, rows_append, List.append_assoc]
  rfl

theorem wcells_append (a b : List (Nat × Slb)) : wcells (a ++ b) = wcells a ++ wcells b := by simp [wcells]

def Dev.write (d : Dev) (at_ : Int) (s : Slb) : Dev × Int :=
  if d.has at_ then
    if d.stops then (d.after, 132)
    else ({ d.after with seen := d.seen.set at_.toNat s, written := d.written ++ [(at_.toNat, s)] }, 0)
  else (d, 131)
theorem Dev.Good.write {d : Dev} (h : d.Good) (at_ : Int) (s : Slb) (hs : s.length = 128) : (d.write at_ s).1.Good := by
  unfold Dev.write
  split
  · rename_i hh
    simp only [Dev.has, Bool.and_eq_true, decide_eq_true_eq] at hh
    split
    · exact h.after
    · refine ⟨by simpa [Dev.after] using h.seen, h.few, h.k128, ?_, ?_, h.after.lo, h.after.hi⟩
      · intro t ht
        rcases List.mem_or_eq_of_mem_set ht with h1 | h1
        · exact h.s128 t h1
        · subst h1; exact hs
      · intro p hp
        simp only [List.mem_append, List.mem_singleton] at hp
        rcases hp with hp | rfl
        · exact h.wat p hp
        · exact ⟨by show at_.toNat < d.kept.length; omega, hs⟩
  · exact h

theorem info91 : (Try.prog.info? 125).map (fun i => i.zero.map (fun z => z.cells.size)) = some (some 129) := by kernel_rfl
theorem more91 : (Try.prog.info? 125).map (fun i => (i.size, i.bytes)) = some (129, 136) := by kernel_rfl
theorem isz91 : (Try.prog.info? 125).map (·.size) = some 129 := by kernel_rfl
theorem isz33 : (Try.prog.info? 34).map (·.size) = some 128 := by kernel_rfl
theorem iszInt : (Try.prog.info? 3).map (·.size) = some 1 := by kernel_rfl
theorem chg_info : ∃ i, Try.prog.info? 125 = some i ∧ (∃ z, i.zero = some z ∧ z.cells.size = 129) ∧ i.size = 129 ∧ i.bytes = 136 := by
  obtain ⟨i, z, h1, h2, zs, h3, h4⟩ := zero_parts info91
  have := more91
  rw [h1] at this
  simp at this
  exact ⟨i, h1, ⟨z, h2, by rw [h3]; simpa using h4⟩, this.1, this.2⟩
/-- A change, built; a row of one. -/
def mkChange (parts : Array (Nat × Value)) : Sem Value := Instr.build 125 parts
theorem mkChange_fold (parts : Array (Nat × Value)) : Instr.build 125 parts = mkChange parts := rfl
theorem mkChange_run (k : IntKind) (n : Int) (s : Slb) (hs : s.length = 128) (w : World) : (mkChange #[(0, .int k n), (1, .agg (enc s).toArray)]).run Try.prog w = .ok (.agg (.int k n :: enc s).toArray) w :=
  run_build_pair 125 _ _ 128 Try.underlying125 rfl rfl iszInt isz33 info91 (.int k n) rfl (enc s) (by simp [enc_length, hs]) w
def mkRow (parts : Array (Nat × Value)) : Sem Value := Instr.buildSlice 120 1 parts
theorem mkRow_fold (parts : Array (Nat × Value)) : Instr.buildSlice 120 1 parts = mkRow parts := rfl
theorem mkRow_run (v : Value) (s : Slb) (hs : s.length = 128) (w : World) : (mkRow #[(0, .agg (v :: enc s).toArray)]).run Try.prog w = .ok (.slice (some ⟨w.heap.size, 0, none⟩) 1 1) (w.alloc (.cells (v :: enc s).toArray 125)) :=
  run_buildSlice_one 120 125 129 Try.underlying120 isz91 info91 (by decide) (by decide) (v :: enc s) (by simp [enc_length, hs]) w
def loadSlab (a : Addr) : Sem Value := loadVar 34 a
theorem loadSlab_fold (a : Addr) : loadVar 34 a = loadSlab a := rfl
theorem loadSlab_run (w : World) (b o : Nat) (s : Slb) (h : w.rangeAt b o (enc s)) (hs : s.length = 128) : (loadSlab ⟨b, o, none⟩).run Try.prog w = .ok (.agg (enc s).toArray) w :=
  run_loadVar_mid w b o _ (enc s) _ h Try.underlying34 rfl (by rw [isz33, enc_length, hs])
attribute [local go_sem ↓] mkChange_fold mkRow_fold loadSlab_fold
attribute [local go_sem] mkChange_run mkRow_run

/-- What stands behind the append. -/
theorem write_fin (w w1 w2 w3 : World) (b k s i g cap : Nat) (wv : Value) (F : Nat → Prop) (d : Dev) (sl : Slb) (o : Obj)
    (hG : d.Good) (hh : d.has i = true) (hs : sl.length = 128)
    (hF : F = fun j => j = b ∨ j = k ∨ j = s ∨ wv.ownBlock = some j)
    (ho1 : Only F (w.alloc o) w1) (hi : DevIn w1 b k s wv d.after) (o2 : Only (fun j => j = s) w1 w2)
    (s2 : Blk w2 s 34 (rows (d.seen.set i sl)))
    (own3 : w3.ownsRow 0 125 129 (.slice (some ⟨g, 0, none⟩) (d.written.length + 1) cap) (d.written.length + 1) (wcells d.written ++ (Value.int .i64 (i : Int) :: enc sl)))
    (o3 : Only (fun j => wv.ownBlock = some j) w2 w3) (hat : wv.ownBlock = some g ∨ g = w2.heap.size + 1)
    (hm : d.stops = false) :
    DevPost w b F (d.write i sl).1 (.int .i64 (d.write i sl).2) (.returned (.int .i64 0)) (w3.setCell ⟨b, 2, none⟩ (.slice (some ⟨g, 0, none⟩) (d.written.length + 1) cap)) := by
  have hwr : (d.write i sl).1 = { d.after with seen := d.seen.set i sl, written := d.written ++ [(i, sl)] } ∧ (d.write i sl).2 = 0 := by simp [Dev.write, hh, hm]
  obtain ⟨n1, n2, n3, n4, n5, n6⟩ := hi.ne
  have hlt1 := hi.lt
  have sz2 := o2.size
  have o4 : Only (fun j => j = b) w3 (w3.setCell ⟨b, 2, none⟩ (.slice (some ⟨g, 0, none⟩) (d.written.length + 1) cap)) := (Only.refl (fun j => j = b) w3).setCell (p := ⟨b, 2, none⟩) (.inr rfl) _
  have hgb : g ≠ b := by
    rintro rfl
    rcases hat with h | h
    · exact n4 h
    · have := hlt1 g (.inl rfl); omega
  have hgood := hG.write (i : Int) sl hs
  refine ⟨by rw [hwr.2], fun j => j = b ∨ j = k ∨ j = s ∨ Value.ownBlock (.slice (some ⟨g, 0, none⟩) (d.written.length + 1) cap) = some j, ⟨k, s, _, ?_, hgood, rfl⟩, ?_, ?_⟩
  · rw [hwr.1]
    refine ⟨?_, ?_, ?_, ?_, n1⟩
    · exact (o3.blk (o2.blk hi.1 n3) n4).set_ 2 _ |> fun h => by simpa [Dev.after] using h
    · exact o4.blk (o3.blk (o2.blk hi.2.1 n1) n5) (Ne.symm n2)
    · exact o4.blk (o3.blk s2 n6) (Ne.symm n3)
    · have := o4.own own3 (fun g' hg' e => by
        have : g = g' := by simpa [Value.ownBlock] using hg'
        exact hgb (this.trans e))
      have e : wcells (d.written ++ [(i, sl)]) = wcells d.written ++ (Value.int .i64 (i : Int) :: enc sl) := by rw [wcells_append]; simp [wcells]
      rw [show (({ d.after with seen := d.seen.set i sl, written := d.written ++ [(i, sl)] } : Dev)).written = d.written ++ [(i, sl)] from rfl, e, List.length_append]
      exact this
  · have h1 : Only F w w1 := ((Only.refl F w).alloc o).trans ho1 (fun _ _ h => h)
    have h2 : Only F w w2 := h1.trans o2 (fun j _ e => by rw [hF]; exact .inr (.inr (.inl e)))
    have h3 : Only F w w3 := h2.trans o3 (fun j _ e => by rw [hF]; exact .inr (.inr (.inr e)))
    exact h3.trans o4 (fun j _ e => by rw [hF]; exact .inl e)
  · have hz : w.heap.size ≤ w2.heap.size := by
      have := ho1.size; simp at this; omega
    rintro j (rfl | rfl | rfl | hj)
    · left; rw [hF]; exact .inl rfl
    · left; rw [hF]; exact .inr (.inl rfl)
    · left; rw [hF]; exact .inr (.inr (.inl rfl))
    · have : g = j := by simpa [Value.ownBlock] using hj
      subst this
      rcases hat with h | h
      · left; rw [hF]; exact .inr (.inr (.inr h))
      · right; omega

set_option maxHeartbeats 400000 in
set_option maxRecDepth 100000 in
theorem write_yes (w : World) (b : Nat) (F : Nat → Prop) (d : Dev) (i : Nat) (sl : Slb) (h : DevRep w b F d) (hs : sl.length = 128) (hwl : d.written.length ≤ 1000000)
    (hh : d.has i = true) (hm : d.stops = false) :
    Calls Try.prog 15 #[.pointer (some ⟨b, 0, none⟩), .int .i64 i, .agg (enc sl).toArray] w (DevPost w b F (d.write i sl).1 (.int .i64 (d.write i sl).2)) := by
  have hlt := h.lt
  have hG := h.good
  have hb : i < d.kept.length := by simp only [Dev.has, Bool.and_eq_true, decide_eq_true_eq] at hh; omega
  have hwr : (d.write i sl).1 = { d.after with seen := d.seen.set i sl, written := d.written ++ [(i, sl)] } ∧ (d.write i sl).2 = 0 := by simp [Dev.write, hh, hm]
  have i0 : (0 : Int) ≤ (i : Int) := by omega
  have i1 : (i : Int) < (d.kept.length : Int) := by omega
  have HW := hide hwr
  clear hwr
  go_enter Try.func15, Try.ntmps15
  go_wp2_with (first
    | (go_at_call 77; refine (has_any _ b F d _ (h.alloc _)).mono ?_; rintro e w' ⟨rfl, rfl⟩)
    | (go_at_call 78; refine (may_any _ b F d (h.alloc _)).mono ?_; rintro e w1 ⟨rfl, hr1, ho1⟩))
  obtain ⟨k, s, wv, hi, hg1, hF⟩ := hr1
  have hbox : Blk w1 w.heap.size 34 (enc sl) := ho1.blk (Blk.new w _ _) (fun hf => absurd (hlt _ hf) (by omega))
  have c1 : w1.cell? ⟨b, 1, none⟩ = some (.slice (some ⟨s, 0, none⟩) d.kept.length d.kept.length) := by rw [hi.1.cell]; rfl
  have hrange := hbox.whole
  have hthere : w1.there s (i * 128) 128 := hi.2.2.1.there _ _ (by rw [rows_length _ hg1.s128, hg1.seen]; show i * 128 + 128 ≤ d.kept.length * 128; omega)
  have hu := Try.underlying34
  have hsz : (Try.prog.info? 34).map (·.size) = some (enc sl).length := by rw [isz33, enc_length, hs]
  have hone := enc_one sl
  have hlen : (enc sl).length = 128 := by rw [enc_length, hs]
  have hne := hi.ne
  have hbs : b ≠ s := hne.2.2.1
  have hws : w.heap.size ≠ s := fun e => by have := hlt s (by rw [hF]; exact .inr (.inr (.inl rfl))); omega
  have HI := hide hi
  clear hne
  have hbox' := hide hbox
  clear hi hbox
  go_region_held3 (fun w' => w'.cell? ⟨b, 1, none⟩ = some (.slice (some ⟨s, 0, none⟩) d.kept.length d.kept.length) ∧ w'.rangeAt w.heap.size 0 (enc sl) ∧ w'.there s (i * 128) 128) (first | go_keep_ranges | (go_split_ands; exact ⟨keep_cell (by assumption) hbs, World.rangeAt_setCells_apart (by assumption) _ _ _ (.inl hws), World.there_setCells (by assumption) _ _ _⟩)) (fail)
  generalize hw2 : w1.drew.setCells s (i * 128) (enc sl) = w2
  have HW2 := hide hw2
  clear hw2 c1 hrange hthere
  have o2 : Only (fun j => j = s) w1 w2 := by rw [← HW2.out]; exact Only.setCells (F := fun j => j = s) (.inr rfl) _ _ _ (Only.refl _ w1).drew
  have b2 : Blk w2 b 122 [.slice (some ⟨k, 0, none⟩) d.kept.length d.kept.length, .slice (some ⟨s, 0, none⟩) d.kept.length d.kept.length, wv, .int .i64 d.after.budget, .bool d.after.down] := o2.blk HI.out.1 hbs
  have s2 : Blk w2 s 34 (rows (d.seen.set i sl)) := by
    have := Blk.cells (enc sl) (i * 128) _ _ (show Blk w1.drew s _ _ from HI.out.2.2.1)
    rw [HW2.out] at this
    rwa [show rows d.after.seen = rows d.seen from rfl, rows_set d.seen i sl hG.s128 hs (by rw [hG.seen]; exact hb)] at this
  have c2 : w2.cell? ⟨b, 2, none⟩ = some wv := by rw [b2.cell]; rfl
  have c2a : ∀ o, (w2.alloc o).cell? ⟨b, 2, none⟩ = some wv := fun o => ((b2.alloc o).cell 2).trans rfl
  have r2 : Blk w2 w.heap.size 34 (enc sl) := o2.blk hbox'.out hws
  have l2 : (loadSlab ⟨w.heap.size, 0, none⟩).run Try.prog w2.drew = .ok (.agg (enc sl).toArray) w2.drew := loadSlab_run _ _ _ sl r2.whole hs
  obtain ⟨i91, hi91, hz0, hz1, hz2⟩ : ∃ i, Try.prog.info? 125 = some i ∧ (∃ z, i.zero = some z ∧ z.cells.size = 129) ∧ i.size = 129 ∧ i.bytes = 136 := chg_info
  obtain ⟨z91, hz91, hzs91⟩ := hz0
  have n4 := HI.out.ne.2.2.2.1
  have own2 : w2.ownsRow 0 125 129 wv d.written.length (wcells d.written) := o2.own HI.out.2.2.2.1 (fun g hg e => HI.out.ne.2.2.2.2.2 (e ▸ hg))
  clear hu hsz hone hlen
  go_wp2
  go_region_law ((refine step_append_lies _ (by rfl) _ _ _ (by rfl) 0 125 i91 z91 129 136 Try.underlying120 hi91 hz91 hz1 hz2 hzs91 (by omega) wv d.written.length (wcells d.written) (by rfl) ((own_drew own2).alloc _) ⟨w2.heap.size, 0, none⟩ 1 1 (Value.int .i64 (i : Int) :: enc sl) (by rfl) (by simp [enc_length, hs]) (World.news_of_block (heap_alloc_new w2.drew _)) (cons_one _ sl) (by omega) (by simp only [maxLen]; omega) (by omega) (Nat.zero_le _) (w2.heap.size + 1) (by simp) ?_; intro g cap w3 own3 hgrow hat hlt3; have o3 : Only (fun j => wv.ownBlock = some j) w2 w3 := (((Only.refl _ w2).drew).alloc _).grown hgrow (fun _ e => .inr e); have c3 : w3.cell? ⟨b, 2, none⟩ = some wv := ((o3.blk b2 n4).cell 2).trans rfl; have f3 : w3.frozen? ⟨b, 2, none⟩ = false := (o3.blk b2 n4).frozen 2))
  all_goals
    go_wp2
    go_ret
    exact write_fin w w1 w2 w3 b k s i g cap wv _ d sl _ hG hh hs hF ho1 HI.out o2 s2 own3 o3 hat hm

set_option maxHeartbeats 400000 in
theorem write_off (w : World) (b : Nat) (F : Nat → Prop) (d : Dev) (at_ : Int) (sl : Slb) (h : DevRep w b F d) (hh : d.has at_ = true) (hm : d.stops = true) :
    Calls Try.prog 15 #[.pointer (some ⟨b, 0, none⟩), .int .i64 at_, .agg (enc sl).toArray] w (DevPost w b F (d.write at_ sl).1 (.int .i64 (d.write at_ sl).2)) := by
  have hwr : (d.write at_ sl).1 = d.after ∧ (d.write at_ sl).2 = 132 := by simp [Dev.write, hh, hm]
  rw [hwr.1, hwr.2]
  clear hwr
  go_enter Try.func15, Try.ntmps15
  go_wp2_with (first
    | (go_at_call 77; refine (has_any _ b F d _ (h.alloc _)).mono ?_; rintro e w' ⟨rfl, rfl⟩)
    | (go_at_call 78; refine (may_any _ b F d (h.alloc _)).mono ?_; rintro e w1 ⟨rfl, hr1, ho1⟩))
  go_ret
  exact ⟨rfl, F, hr1, ((Only.refl F w).alloc _).trans ho1 (fun _ _ h => h), fun _ h => .inl h⟩
set_option maxHeartbeats 400000 in
theorem write_no (w : World) (b : Nat) (F : Nat → Prop) (d : Dev) (at_ : Int) (sl : Slb) (h : DevRep w b F d) (hh : d.has at_ = false) :
    Calls Try.prog 15 #[.pointer (some ⟨b, 0, none⟩), .int .i64 at_, .agg (enc sl).toArray] w (DevPost w b F (d.write at_ sl).1 (.int .i64 (d.write at_ sl).2)) := by
  have hwr : (d.write at_ sl).1 = d ∧ (d.write at_ sl).2 = 131 := by simp [Dev.write, hh]
  rw [hwr.1, hwr.2]
  clear hwr
  go_enter Try.func15, Try.ntmps15
  go_wp2_with (go_at_call 77; refine (has_any _ b F d _ (h.alloc _)).mono ?_; rintro e w' ⟨rfl, rfl⟩)
  go_ret
  exact ⟨rfl, F, h.alloc _, (Only.refl F w).alloc _, fun _ h => .inl h⟩
theorem write_any (w : World) (b : Nat) (F : Nat → Prop) (d : Dev) (at_ : Int) (sl : Slb) (h : DevRep w b F d) (hs : sl.length = 128) (hwl : d.written.length ≤ 1000000) :
    Calls Try.prog 15 #[.pointer (some ⟨b, 0, none⟩), .int .i64 at_, .agg (enc sl).toArray] w (DevPost w b F (d.write at_ sl).1 (.int .i64 (d.write at_ sl).2)) := by
  cases hh : d.has at_ with
  | false => exact write_no w b F d at_ sl h hh
  | true =>
    cases hm : d.stops with
    | true => exact write_off w b F d at_ sl h hh hm
    | false =>
      obtain ⟨i, rfl⟩ : ∃ i : Nat, at_ = i := by
        simp only [Dev.has, Bool.and_eq_true, decide_eq_true_eq] at hh
        exact ⟨at_.toNat, by omega⟩
      exact write_yes w b F d i sl h hs hwl hh hm
end Go.Proofs.Ytjnpkcabkccaoaa
/-
  The device: New, Size, Down, Budget, Read; a slab of one byte.
-/
namespace Go.Proofs.Ytjnpkcabkccaoaa
open Go.RowKit
attribute [local go_sem ↓] loadSlab_fold

theorem repOf {w : World} {b k s : Nat} {wv : Value} {d : Dev} (h : DevIn w b k s wv d) (hG : d.Good) : DevRep w b (fun i => i = b ∨ i = k ∨ i = s ∨ wv.ownBlock = some i) d := ⟨k, s, wv, h, hG, rfl⟩

set_option maxHeartbeats 400000 in
theorem size_any (w : World) (b : Nat) (F : Nat → Prop) (d : Dev) (h : DevRep w b F d) :
    Calls Try.prog 27 #[.pointer (some ⟨b, 0, none⟩)] w fun e w' => e = .returned (.int .i64 (d.kept.length : Int)) ∧ w = w' := by
  obtain ⟨k, s, wv, hi, hG, rfl⟩ := h
  have hc : w.cell? ⟨b, 1, none⟩ = some (.slice (some ⟨s, 0, none⟩) d.kept.length d.kept.length) := by rw [hi.1.cell]; rfl
  clear hi hG
  go_enter Try.func27, Try.ntmps27
  go_wp2
  go_ret
  exact ⟨rfl, rfl⟩
set_option maxHeartbeats 400000 in
theorem devdown_any (w : World) (b : Nat) (F : Nat → Prop) (d : Dev) (h : DevRep w b F d) :
    Calls Try.prog 26 #[.pointer (some ⟨b, 0, none⟩)] w fun e w' => e = .returned (.bool d.down) ∧ w = w' := by
  obtain ⟨k, s, wv, hi, hG, rfl⟩ := h
  have hc : w.cell? ⟨b, 4, none⟩ = some (.bool d.down) := by rw [hi.1.cell]; rfl
  clear hi hG
  go_enter Try.func26, Try.ntmps26
  go_wp2
  go_ret
  exact ⟨rfl, rfl⟩
theorem DevIn.setb {w : World} {b k s : Nat} {wv : Value} {d : Dev} (hi : DevIn w b k s wv d) (n : Int) : DevIn (w.setCell ⟨b, 3, none⟩ (.int .i64 n)) b k s wv { d with budget := n } := by
  have hn := hi.ne
  have ho : Only (fun i => i = b) w (w.setCell ⟨b, 3, none⟩ (.int .i64 n)) := (Only.refl (fun i => i = b) w).setCell (p := ⟨b, 3, none⟩) (.inr rfl) _
  exact ⟨hi.1.set_ 3 _, ho.blk hi.2.1 (Ne.symm hn.2.1), ho.blk hi.2.2.1 (Ne.symm hn.2.2.1), ho.own hi.2.2.2.1 (fun g e hg => hn.2.2.2.1 (hg ▸ e)), hi.2.2.2.2⟩
theorem Dev.Good.budget {d : Dev} (h : d.Good) (n : Int) (hn : n ≤ 9223372036854775807) : ({ d with budget := max n (-1) } : Dev).Good :=
  ⟨h.seen, h.few, h.k128, h.s128, h.wat, by show -1 ≤ max n (-1); omega, by show max n (-1) ≤ _; omega⟩
def Dev.limit (d : Dev) (n : Int) : Dev := { d with budget := max n (-1) }
set_option maxHeartbeats 400000 in
theorem budget_any (w : World) (b : Nat) (F : Nat → Prop) (d : Dev) (n : Int) (h : DevRep w b F d) (hn : n ≤ 9223372036854775807) :
    Calls Try.prog 20 #[.pointer (some ⟨b, 0, none⟩), .int .i64 n] w fun e w' => e = .returned (.tuple #[]) ∧ DevRep w' b F (d.limit n) ∧ Only F w w' := by
  obtain ⟨k, s, wv, hi, hG, rfl⟩ := h
  have hc : w.cell? ⟨b, 3, none⟩ = some (.int .i64 d.budget) := by rw [hi.1.cell]; rfl
  have hf := hi.1.frozen 3
  have HI := hide hi
  clear hi
  go_enter Try.func20, Try.ntmps20
  go_wp2
  all_goals
    go_end0
    refine ⟨rfl, ?_, (Only.refl _ w).setCell (p := ⟨b, 3, none⟩) (.inr (.inl rfl)) _⟩
    have hm : d.limit n = { d with budget := (d.limit n).budget } := rfl
    have hv : (d.limit n).budget = max n (-1) := rfl
    refine ⟨k, s, wv, ?_, hG.budget n hn, rfl⟩
    rw [hm, hv]
    first
      | (rw [show max n (-1) = n by omega]; exact HI.out.setb n)
      | (rw [show max n (-1) = -1 by omega]; exact HI.out.setb (-1))

/-! ### A slab of one byte -/
def zeroS : Slb := List.replicate 128 0
def fullS (v : Int) : Slb := List.replicate 127 v ++ [(v + 1) % 256]
theorem zeroS_length : zeroS.length = 128 := by simp [zeroS]
theorem fullS_length (v : Int) : (fullS v).length = 128 := by simp [fullS]
/-- What the loop has made behind k rounds. -/
def partS (v : Int) (k : Nat) : Slb := List.replicate k v ++ List.replicate (128 - k) 0
theorem partS_get (v : Int) (k : Nat) (h : k < 128) : (enc (partS v k))[k]? = some (.int .u8 0) := by
  unfold enc partS
  rw [List.getElem?_map, List.getElem?_append_right (by simp), List.getElem?_replicate, if_pos (by simp; omega)]
  rfl
theorem partS_last (v : Int) : (enc (partS v 128))[127]? = some (.int .u8 v) := by
  unfold enc partS
  rw [List.getElem?_map, List.getElem?_append_left (by simp), List.getElem?_replicate, if_pos (by omega)]
  rfl
theorem partS_set (v : Int) (k : Nat) (h : k < 128) : (enc (partS v k)).set k (.int .u8 v) = enc (partS v (k + 1)) := by
  unfold enc partS
  rw [← List.map_set, List.set_append_right _ _ (by simp)]
  obtain ⟨m, hm⟩ : ∃ m, 128 - k = m + 1 := ⟨128 - k - 1, by omega⟩
  have hm' : 128 - (k + 1) = m := by omega
  rw [hm, hm', List.replicate_succ, List.replicate_succ']
  simp
theorem fullS_eq (v : Int) : (enc (partS v 128)).set 127 (.int .u8 ((v + 1) % 256)) = enc (fullS v) := by
  unfold enc partS fullS
  rw [← List.map_set, show List.replicate 128 v = List.replicate 127 v ++ [v] from rfl, List.append_assoc, List.set_append_right _ _ (by simp)]
  simp
theorem zero33 : (Try.prog.info? 34).map (·.zero) = some (some (.agg (enc zeroS).toArray)) := by kernel_rfl
def mkSlab (parts : Array (Nat × Value)) : Sem Value := Instr.build 34 parts
theorem mkSlab_fold (parts : Array (Nat × Value)) : Instr.build 34 parts = mkSlab parts := rfl
theorem mkSlab_run (w : World) : (mkSlab #[]).run Try.prog w = .ok (.agg (enc zeroS).toArray) w := by kernel_rfl
attribute [local go_sem ↓] mkSlab_fold
attribute [local go_sem] mkSlab_run

set_option maxHeartbeats 1000000 in
set_option maxRecDepth 100000 in
theorem full_any (w : World) (v : Int) :
    Calls Try.prog 16 #[.int .u8 v] w fun e w' => e = .returned (.agg (enc (fullS v)).toArray) ∧ Below w.heap.size w w' := by
  have i33 : (Try.prog.info? 34).map (·.size) = some (enc zeroS).length := by rw [isz33, enc_length, zeroS_length]
  have hI := hide i33
  clear i33
  go_enter Try.func16, Try.ntmps16
  go_wp2_with (first
    | (refine wpList_alloc_agg rfl 34 rfl (enc zeroS) zero33 ?_; simp only [Act.put, List.setIfInBounds_toArray, List.set_cons_zero, List.set_cons_succ, World.size_alloc])
    | (refine wpList_store_blk rfl 34 _ _ rfl (w.heap.size + 1) 0 34 (enc zeroS) (enc zeroS) (by rfl) (by rfl) ?_ (Nat.le_of_eq (Nat.zero_add _)) hI.out (enc_one _) ?_; (exact Blk.new1 w _ _ _); intro w1 o1 z1 b1; simp only [Act.put]))
  rw [lay_all _ _ rfl] at b1
  obtain ⟨W, hW⟩ : ∃ W, W = (w.alloc (.cells (enc zeroS).toArray 34)).alloc (.cells (enc zeroS).toArray 34) := ⟨_, rfl⟩
  rw [← hW] at o1 z1
  have HW := hide hW
  have hz : W.heap.size = w.heap.size + 2 := by rw [hW]; simp
  clear hW
  go_wp2
  go_loopw [6] (fun i wr => ∃ k : Nat, k ≤ 128 ∧ i = .int .i64 k ∧ Blk wr (w.heap.size + 1) 34 (enc (partS v k)) ∧ Only (fun i => i = w.heap.size + 1) W wr) (fun i _ => 128 - (intOf i).toNat)
  case atStart => exact ⟨0, by omega, rfl, b1, o1⟩
  case round =>
    obtain ⟨k, hk, rfl, hb, ho⟩ := hrel
    have hf := hb.frozen
    by_cases hlt : k < 128
    · have hc : wr.cell? ⟨w.heap.size + 1, k, none⟩ = some (.int .u8 0) := by rw [hb.cell]; exact partS_get v k hlt
      have hff := hf k
      clear hf
      go_wp2
      go_roundw
      case rel => exact ⟨k + 1, by omega, by go_num, by rw [← partS_set v k hlt]; exact hb.set_ k _, ho.setCell (p := ⟨w.heap.size + 1, k, none⟩) (.inr rfl) _⟩
      case measure => simp [intOf]; omega
    · have hk' : k = 128 := by omega
      subst hk'
      have hc : wr.cell? ⟨w.heap.size + 1, 127, none⟩ = some (.int .u8 v) := by rw [hb.cell]; exact partS_last v
      have hff := hf 127
      clear hf
      have hb2 := hb.set_ 127 (.int .u8 ((v + 1) % 256))
      rw [fullS_eq] at hb2
      have hu := hide Try.underlying34
      have hI' : Hid ((Try.prog.info? 34).map (·.size) = some (enc (fullS v)).length) := by
        show _ = _
        rw [isz33, enc_length, fullS_length]
      have bH : Blk (wr.setCell ⟨w.heap.size + 1, 127, none⟩ (.int .u8 ((v + 1) % 256))) w.heap.size 34 (enc zeroS) := by
        have h0 : Blk W w.heap.size 34 (enc zeroS) := by rw [HW.out]; exact (Blk.new w _ _).alloc _
        exact (ho.blk h0 (by omega)).far (p := ⟨w.heap.size + 1, 127, none⟩) (by simp) _
      go_wp2_with (first
        | (refine wpList_load_blk rfl 34 _ rfl (w.heap.size + 1) 0 34 (enc (fullS v)) (enc (fullS v)) _ (by rfl) ?_ (fun j v hv => by simpa using hv) hu.out rfl hI'.out ?_; (exact hb2); simp only [Act.put, List.setIfInBounds_toArray, List.set_cons_zero, List.set_cons_succ])
        | (refine wpList_store_blk rfl 34 _ _ rfl w.heap.size 0 34 (enc zeroS) (enc (fullS v)) (by rfl) (by rfl) bH (Nat.le_of_eq (by rw [enc_length, enc_length, fullS_length, zeroS_length])) hI'.out (enc_one _) ?_; intro w2 o2 z2 b2; simp only [Act.put]))
      rw [lay_all _ _ (by rw [enc_length, enc_length, fullS_length, zeroS_length])] at b2
      refine bodyPost_ret (results_cell_row rfl _ _ w.heap.size 34 _ _ _ (by rfl) b2 hu.out rfl (by rw [hI'.out]; simp)) rfl ⟨rfl, ?_⟩
      have e1 : Below w.heap.size w W := by rw [HW.out]; exact ((Below.refl _ _).alloc (Nat.le_refl _) _).alloc (by simp) _
      have e2 : Below w.heap.size W wr := ho.below (by omega) (fun i hi => by omega)
      have e3 := (e1.trans e2).setCell (p := ⟨w.heap.size + 1, 127, none⟩) (by simp) (.int .u8 ((v + 1) % 256))
      exact e3.trans (o2.below e3.size (fun i hi => by omega))
end Go.Proofs.Ytjnpkcabkccaoaa
/-
  The device: Read, New.
-/
namespace Go.Proofs.Ytjnpkcabkccaoaa
open Go.RowKit
attribute [local go_sem ↓] mkSlab_fold
attribute [local go_sem] mkSlab_run

def Dev.read (d : Dev) (at_ : Int) : Slb × Int := if d.has at_ then (d.seen[at_.toNat]?.getD zeroS, 0) else (zeroS, 131)
theorem isz33' (s : Slb) (hs : s.length = 128) : (Try.prog.info? 34).map (·.size) = some (enc s).length := by rw [isz33, enc_length, hs]

set_option maxHeartbeats 400000 in
set_option maxRecDepth 100000 in
theorem read_no (w : World) (b : Nat) (F : Nat → Prop) (d : Dev) (at_ : Int) (h : DevRep w b F d) (hh : d.has at_ = false) :
    Calls Try.prog 24 #[.pointer (some ⟨b, 0, none⟩), .int .i64 at_] w fun e w' => e = .returned (.tuple #[.agg (enc (d.read at_).1).toArray, .int .i64 (d.read at_).2]) ∧ Below w.heap.size w w' := by
  have hr : d.read at_ = (zeroS, 131) := by simp [Dev.read, hh]
  rw [hr]
  have hI := hide (isz33' zeroS zeroS_length)
  have hu := hide Try.underlying34
  go_enter Try.func24, Try.ntmps24
  go_wp2_with (first
    | (go_at_call 77; refine (has_any _ b F d _ (h.alloc _)).mono ?_; rintro e w' ⟨rfl, rfl⟩)
    | (refine wpList_alloc_agg rfl 34 rfl (enc zeroS) zero33 ?_; simp only [Act.put, List.setIfInBounds_toArray, List.set_cons_zero, List.set_cons_succ])
    | (refine wpList_store_blk rfl 34 _ _ rfl w.heap.size 0 34 (enc zeroS) (enc zeroS) (by rfl) (by rfl) (Blk.new w _ _) (Nat.le_of_eq (Nat.zero_add _)) hI.out (enc_one _) ?_; intro w2 o2 z2 b2; simp only [Act.put]))
  rw [lay_all _ _ rfl] at b2
  refine bodyPost_ret (results_cell_tmp_blk rfl _ _ w.heap.size 34 _ _ (by rfl) b2 hu.out rfl hI.out) rfl ⟨rfl, ?_⟩
  exact ((Below.refl _ _).alloc (Nat.le_refl _) _).trans (o2.below (by simp) (fun i hi => by omega))
set_option maxHeartbeats 400000 in
set_option maxRecDepth 100000 in
theorem read_yes (w : World) (b : Nat) (F : Nat → Prop) (d : Dev) (i : Nat) (h : DevRep w b F d) (hh : d.has i = true) :
    Calls Try.prog 24 #[.pointer (some ⟨b, 0, none⟩), .int .i64 i] w fun e w' => e = .returned (.tuple #[.agg (enc (d.read i).1).toArray, .int .i64 (d.read i).2]) ∧ Below w.heap.size w w' := by
  have hG := h.good
  have hb : i < d.kept.length := by simp only [Dev.has, Bool.and_eq_true, decide_eq_true_eq] at hh; omega
  have hbs : i < d.seen.length := by rw [hG.seen]; exact hb
  obtain ⟨sl, hsl⟩ : ∃ sl, d.seen[i]? = some sl := ⟨_, List.getElem?_eq_getElem hbs⟩
  have h128 : sl.length = 128 := hG.s128 sl (List.mem_of_getElem? hsl)
  have hr : d.read i = (sl, 0) := by simp [Dev.read, hh, hsl]
  rw [hr]
  have hI := hide (isz33' sl h128)
  have hu := hide Try.underlying34
  obtain ⟨k, s, wv, hi, _, hF⟩ := h.alloc (.cells (enc zeroS).toArray 34)
  have c1 : (w.alloc (.cells (enc zeroS).toArray 34)).cell? ⟨b, 1, none⟩ = some (.slice (some ⟨s, 0, none⟩) d.kept.length d.kept.length) := by rw [hi.1.cell]; rfl
  have hs := hi.2.2.1
  have HS := hide hs
  have i0 : (0 : Int) ≤ (i : Int) := by omega
  have i1 : (i : Int) < (d.kept.length : Int) := by omega
  clear hs hi hF hr
  go_enter Try.func24, Try.ntmps24
  go_wp2_with (first
    | (go_at_call 77; refine (has_any _ b F d _ (h.alloc _)).mono ?_; rintro e w' ⟨rfl, rfl⟩)
    | (refine wpList_alloc_agg rfl 34 rfl (enc zeroS) zero33 ?_; simp only [Act.put, List.setIfInBounds_toArray, List.set_cons_zero, List.set_cons_succ])
    | (refine wpList_load_blk rfl 34 _ rfl s (i * 128) 34 (rows d.seen) (enc sl) _ (by rfl) HS.out (rows_get d.seen i sl hG.s128 hsl) hu.out rfl hI.out ?_; simp only [Act.put, List.setIfInBounds_toArray, List.set_cons_zero, List.set_cons_succ])
    | (refine wpList_store_blk rfl 34 _ _ rfl w.heap.size 0 34 (enc zeroS) (enc sl) (by rfl) (by rfl) (Blk.new w _ _) (Nat.le_of_eq (by rw [enc_length, enc_length, h128, zeroS_length])) hI.out (enc_one _) ?_; intro w2 o2 z2 b2; simp only [Act.put]))
  rw [lay_all _ _ (by rw [enc_length, enc_length, h128, zeroS_length])] at b2
  refine bodyPost_ret (results_cell_tmp_blk rfl _ _ w.heap.size 34 _ _ (by rfl) b2 hu.out rfl hI.out) rfl ⟨rfl, ?_⟩
  exact ((Below.refl _ _).alloc (Nat.le_refl _) _).trans (o2.below (by simp) (fun i hi => by omega))
theorem read_any (w : World) (b : Nat) (F : Nat → Prop) (d : Dev) (at_ : Int) (h : DevRep w b F d) :
    Calls Try.prog 24 #[.pointer (some ⟨b, 0, none⟩), .int .i64 at_] w fun e w' => e = .returned (.tuple #[.agg (enc (d.read at_).1).toArray, .int .i64 (d.read at_).2]) ∧ Below w.heap.size w w' := by
  cases hh : d.has at_ with
  | false => exact read_no w b F d at_ h hh
  | true =>
    obtain ⟨i, rfl⟩ : ∃ i : Nat, at_ = i := by
      simp only [Dev.has, Bool.and_eq_true, decide_eq_true_eq] at hh
      exact ⟨at_.toNat, by omega⟩
    exact read_yes w b F d i h hh

/-! ### New -/
def newN (n : Int) : Nat := (max 0 (min n 4096)).toNat
def newDev (n : Int) : Dev := { kept := List.replicate (newN n) zeroS, seen := List.replicate (newN n) zeroS, written := [], budget := -1, down := false }
theorem newDev_good (n : Int) : (newDev n).Good := by
  refine ⟨by simp [newDev], by simp [newDev, newN]; omega, ?_, ?_, by simp [newDev], by simp [newDev], by simp [newDev]⟩
  all_goals (intro s hs; rw [(List.mem_replicate.1 hs).2]; exact zeroS_length)
theorem rows_zero (n : Nat) : rows (List.replicate n zeroS) = List.replicate (n * 128) (.int .u8 0) := by
  induction n with
  | zero => simp [rows]
  | succ n ih =>
    rw [List.replicate_succ]
    have : rows (zeroS :: List.replicate n zeroS) = enc zeroS ++ rows (List.replicate n zeroS) := rfl
    rw [this, ih, show (n + 1) * 128 = 128 + n * 128 by omega, ← List.replicate_append_replicate]
    simp [enc, zeroS]
theorem make33 (n : Nat) (hn : n ≤ 4096) (w : World) : (Instr.makeSlice 47 (.int .i64 (n : Int)) (.int .i64 (n : Int))).run Try.prog w =
    .ok (.slice (some ⟨w.heap.size, 0, none⟩) n n) (w.alloc (.cells (rows (List.replicate n zeroS)).toArray 34)) := by
  have hx : (Try.prog.info? 34).map (fun i => (i.zero, i.size, i.bytes)) = some (some (.agg (List.replicate 128 (.int .u8 0)).toArray), 128, 128) := by kernel_rfl
  obtain ⟨i, hi, hz, hs, hby⟩ := info_parts hx
  have := run_make_rowN (P := Try.prog) 47 34 i _ Try.underlying47 hi hz .i64 .i64 n n (Nat.le_refl _) (by rw [hby]; omega) (by omega) w
  rw [this, hs, rows_zero, ← madeCells_replicate (.int .u8 0) 128 (n * 128) (by decide)]
  rfl
def big : Nat := 4096
def NewPost (w : World) (n : Int) (e : Ending) (w' : World) : Prop :=
  ∃ b F, e = .returned (.pointer (some ⟨b, 0, none⟩)) ∧ DevRep w' b F (newDev n) ∧ Below w.heap.size w w' ∧ ∀ i, F i → w.heap.size ≤ i
theorem new_fin (w : World) (n : Int) (m k s : Nat) (hm : newN n = m) (hks : k = w.heap.size ∧ s = w.heap.size + 1 ∨ s = w.heap.size ∧ k = w.heap.size + 1) :
    NewPost w n (.returned (.pointer (some ⟨w.heap.size + 2, 0, none⟩))) (((w.alloc (.cells (rows (List.replicate m zeroS)).toArray 34)).alloc (.cells (rows (List.replicate m zeroS)).toArray 34)).alloc
      (.cells [Value.slice (some ⟨k, 0, none⟩) m m, .slice (some ⟨s, 0, none⟩) m m, .slice none 0 0, .int .i64 (-1), .bool false].toArray 122)).drew := by
  subst hm
  have hl : (newDev n).kept.length = newN n := by simp [newDev]
  have b0 : Blk (((w.alloc (.cells (rows (List.replicate (newN n) zeroS)).toArray 34)).alloc (.cells (rows (List.replicate (newN n) zeroS)).toArray 34)).alloc
      (.cells [Value.slice (some ⟨k, 0, none⟩) (newN n) (newN n), .slice (some ⟨s, 0, none⟩) (newN n) (newN n), .slice none 0 0, .int .i64 (-1), .bool false].toArray 122)).drew w.heap.size 34 (rows (List.replicate (newN n) zeroS)) :=
    ((Blk.new w _ _).alloc _).alloc _
  have b1 : Blk (((w.alloc (.cells (rows (List.replicate (newN n) zeroS)).toArray 34)).alloc (.cells (rows (List.replicate (newN n) zeroS)).toArray 34)).alloc
      (.cells [Value.slice (some ⟨k, 0, none⟩) (newN n) (newN n), .slice (some ⟨s, 0, none⟩) (newN n) (newN n), .slice none 0 0, .int .i64 (-1), .bool false].toArray 122)).drew (w.heap.size + 1) 34 (rows (List.replicate (newN n) zeroS)) :=
    (Blk.new1 w _ _ _).alloc _
  have b2 : Blk (((w.alloc (.cells (rows (List.replicate (newN n) zeroS)).toArray 34)).alloc (.cells (rows (List.replicate (newN n) zeroS)).toArray 34)).alloc
      (.cells [Value.slice (some ⟨k, 0, none⟩) (newN n) (newN n), .slice (some ⟨s, 0, none⟩) (newN n) (newN n), .slice none 0 0, .int .i64 (-1), .bool false].toArray 122)).drew (w.heap.size + 2) 122
      [Value.slice (some ⟨k, 0, none⟩) (newN n) (newN n), .slice (some ⟨s, 0, none⟩) (newN n) (newN n), .slice none 0 0, .int .i64 (-1), .bool false] := by
    have := Blk.new1 (w.alloc (.cells (rows (List.replicate (newN n) zeroS)).toArray 34)) (.cells (rows (List.replicate (newN n) zeroS)).toArray 34) 122
      [Value.slice (some ⟨k, 0, none⟩) (newN n) (newN n), .slice (some ⟨s, 0, none⟩) (newN n) (newN n), .slice none 0 0, .int .i64 (-1), .bool false]
    rw [World.size_alloc] at this
    exact this
  refine ⟨_, _, rfl, repOf (k := k) (s := s) (wv := .slice none 0 0) ⟨?_, ?_, ?_, ?_, ?_⟩ (newDev_good n), ?_, ?_⟩
  · rw [hl]; exact b2
  · rcases hks with ⟨rfl, rfl⟩ | ⟨rfl, rfl⟩
    · exact b0
    · exact b1
  · rcases hks with ⟨rfl, rfl⟩ | ⟨rfl, rfl⟩
    · exact b1
    · exact b0
  · exact World.ownsRow_nil _ _ _ _
  · omega
  · exact ((((Below.refl _ _).alloc (Nat.le_refl _) _).alloc (by simp) _).alloc (by simp; omega) _).drew
  · rintro i (h | h | h | h)
    · omega
    · rcases hks with h' | h' <;> omega
    · rcases hks with h' | h' <;> omega
    · simp [Value.ownBlock] at h
set_option maxHeartbeats 1000000 in
set_option maxRecDepth 100000 in
theorem new_mid (w : World) (m : Nat) (h0 : 0 < m) (h1 : m ≤ 4096) : Calls Try.prog 13 #[.int .i64 (m : Int)] w (NewPost w m) := by
  have hm := make33 m (by omega)
  have hN : Hid (newN (m : Int) = m) := by show _ = _; simp [newN]; omega
  go_enter Try.func13, Try.ntmps13
  go_wp2
  go_region_law (fail)
  all_goals
    go_wp2
    go_ret
    first
      | exact new_fin w m m w.heap.size (w.heap.size + 1) hN.out (by omega)
      | exact new_fin w m m (w.heap.size + 1) w.heap.size hN.out (by omega)
set_option maxHeartbeats 1000000 in
set_option maxRecDepth 100000 in
theorem new_low (w : World) (n : Int) (h0 : n ≤ 0) : Calls Try.prog 13 #[.int .i64 n] w (NewPost w n) := by
  have hm : ∀ w, (Instr.makeSlice 47 (.int .i64 0) (.int .i64 0)).run Try.prog w =
    .ok (.slice (some ⟨w.heap.size, 0, none⟩) 0 0) (w.alloc (.cells (rows (List.replicate 0 zeroS)).toArray 34)) := fun w => make33 0 (by omega) w
  have hN : Hid (newN n = 0) := by show _ = _; simp [newN]; omega
  go_enter Try.func13, Try.ntmps13
  go_wp2
  all_goals
    go_region_law (fail)
    all_goals
      go_wp2
      go_ret
      first
        | exact new_fin w n 0 w.heap.size (w.heap.size + 1) hN.out (by omega)
        | exact new_fin w n 0 (w.heap.size + 1) w.heap.size hN.out (by omega)
set_option maxHeartbeats 1000000 in
set_option maxRecDepth 100000 in
theorem new_high (w : World) (n : Int) (h0 : 4096 < n) : Calls Try.prog 13 #[.int .i64 n] w (NewPost w n) := by
  have hm : ∀ w, (Instr.makeSlice 47 (.int .i64 4096) (.int .i64 4096)).run Try.prog w =
    .ok (.slice (some ⟨w.heap.size, 0, none⟩) big big) (w.alloc (.cells (rows (List.replicate big zeroS)).toArray 34)) := fun w => make33 big (by decide) w
  have hN : Hid (newN n = big) := by show _ = _; simp [newN, big]; omega
  go_enter Try.func13, Try.ntmps13
  go_wp2
  all_goals
    go_region_law (fail)
    all_goals
      go_wp2
      go_ret
      first
        | exact new_fin w n big w.heap.size (w.heap.size + 1) hN.out (by omega)
        | exact new_fin w n big (w.heap.size + 1) w.heap.size hN.out (by omega)
theorem new_any (w : World) (n : Int) : Calls Try.prog 13 #[.int .i64 n] w (NewPost w n) := by
  by_cases h0 : n ≤ 0
  · exact new_low w n h0
  · by_cases h1 : 4096 < n
    · exact new_high w n h1
    · obtain ⟨m, rfl⟩ : ∃ m : Nat, n = m := ⟨n.toNat, by omega⟩
      exact new_mid w m (by omega) (by omega)
end Go.Proofs.Ytjnpkcabkccaoaa
/-
  The device: Sync.
-/
namespace Go.Proofs.Ytjnpkcabkccaoaa
open Go.RowKit

/-- What was written, laid over rows. -/
def over (l : List Slb) (ws : List (Nat × Slb)) : List Slb := ws.foldl (fun l p => l.set p.1 p.2) l
theorem over_length (l : List Slb) (ws : List (Nat × Slb)) : (over l ws).length = l.length := by
  unfold over
  induction ws generalizing l with
  | nil => rfl
  | cons p ws ih => rw [List.foldl_cons, ih]; simp
theorem over_128 (l : List Slb) (ws : List (Nat × Slb)) (h : ∀ s ∈ l, s.length = 128) (hw : ∀ p ∈ ws, p.2.length = 128) : ∀ s ∈ over l ws, s.length = 128 := by
  unfold over
  induction ws generalizing l with
  | nil => exact h
  | cons p ws ih =>
    rw [List.foldl_cons]
    refine ih _ (fun s hs => ?_) (fun q hq => hw q (by simp [hq]))
    rcases List.mem_or_eq_of_mem_set hs with h1 | h1
    · exact h s h1
    · subst h1; exact hw p (by simp)
theorem over_snoc (l : List Slb) (ws : List (Nat × Slb)) (p : Nat × Slb) : over l (ws ++ [p]) = (over l ws).set p.1 p.2 := by simp [over, List.foldl_append]
theorem over_take_succ (l : List Slb) (ws : List (Nat × Slb)) (j : Nat) (p : Nat × Slb) (h : ws[j]? = some p) : over l (ws.take (j + 1)) = (over l (ws.take j)).set p.1 p.2 := by
  have hj : j < ws.length := (List.getElem?_eq_some_iff.1 h).1
  have : ws.take (j + 1) = ws.take j ++ [p] := by
    rw [List.take_succ_eq_append_getElem hj]
    congr 2
    rw [List.getElem?_eq_getElem hj] at h
    exact Option.some.inj h
  rw [this, over_snoc]
theorem wcells_length : ∀ (ws : List (Nat × Slb)), (∀ p ∈ ws, p.2.length = 128) → (wcells ws).length = ws.length * 129
  | [], _ => rfl
  | p :: ws, h => by
    have h1 := h p (by simp)
    have h2 := wcells_length ws (fun q hq => h q (by simp [hq]))
    have : wcells (p :: ws) = (Value.int .i64 (p.1 : Int) :: enc p.2) ++ wcells ws := rfl
    rw [this, List.length_append, List.length_cons, enc_length, h1, h2]; simp; omega
theorem wcells_get : ∀ (ws : List (Nat × Slb)) (k : Nat) (p : Nat × Slb), (∀ p ∈ ws, p.2.length = 128) → ws[k]? = some p → ∀ (j : Nat) (v : Value), (Value.int .i64 (p.1 : Int) :: enc p.2)[j]? = some v → (wcells ws)[k * 129 + j]? = some v
  | [], _, _, _, h => by simp at h
  | q :: ws, 0, p, _, h => by
    intro j v hv
    simp at h; subst h
    have : wcells (q :: ws) = (Value.int .i64 (q.1 : Int) :: enc q.2) ++ wcells ws := rfl
    rw [this, Nat.zero_mul, Nat.zero_add, List.getElem?_append_left (List.getElem?_eq_some_iff.1 hv).1, hv]
  | q :: ws, k + 1, p, h128, h => by
    intro j v hv
    have h1 := h128 q (by simp)
    have : wcells (q :: ws) = (Value.int .i64 (q.1 : Int) :: enc q.2) ++ wcells ws := rfl
    have hl : (Value.int .i64 (q.1 : Int) :: enc q.2).length = 129 := by rw [List.length_cons, enc_length, h1]
    rw [this, List.getElem?_append_right (by rw [hl]; omega), hl]
    rw [show (k + 1) * 129 + j - 129 = k * 129 + j by omega]
    exact wcells_get ws k p (fun t ht => h128 t (by simp [ht])) (by simpa using h) j v hv

def Dev.sync (d : Dev) : Dev × Int := if d.stops then (d.after, 132) else ({ d.after with kept := over d.kept d.written, written := [] }, 0)

/-- What the writes' slice is: nil and empty, or a row. -/
theorem own_cases {w : World} {base : Nat} {e : TypeId} {size : Nat} {v : Value} {n : Nat} {xs : List Value} (h : w.ownsRow base e size v n xs) :
    ∃ (A : Option Addr) (c : Nat), v = .slice A n c ∧ (0 < n → ∃ g : Nat, A = some ⟨g, 0, none⟩ ∧ ∃ cs : List Value, Blk w g e cs ∧ ∀ (j : Nat) (u : Value), xs[j]? = some u → cs[j]? = some u) := by
  rcases h.2 with ⟨rfl, rfl⟩ | ⟨g, cap, cur, rfl, _, hh, _, _, _, htake⟩
  · exact ⟨none, 0, rfl, fun h => absurd h (by omega)⟩
  · refine ⟨some ⟨g, 0, none⟩, cap, rfl, fun _ => ⟨g, rfl, cur.toList, by simpa [Blk] using hh, fun j u hu => ?_⟩⟩
    rw [← htake] at hu
    obtain ⟨hj, rfl⟩ := List.getElem?_eq_some_iff.1 hu
    simp only [List.length_take] at hj
    rw [List.getElem_take]
    exact List.getElem?_eq_getElem (by omega)

theorem zero91 : (Try.prog.info? 125).map (·.zero) = some (some (.agg (Value.int .i64 0 :: enc zeroS).toArray)) := by kernel_rfl
theorem chg_length (n : Int) (s : Slb) (h : s.length = 128) : (Value.int .i64 n :: enc s).length = 129 := by rw [List.length_cons, enc_length, h]
theorem isz91' (n : Int) (s : Slb) (h : s.length = 128) : (Try.prog.info? 125).map (·.size) = some (Value.int .i64 n :: enc s).length := by rw [isz91, chg_length n s h]

/-- One slab of the kept ones is laid anew. -/
theorem DevIn.lay {w w' : World} {b k s : Nat} {wv : Value} {d : Dev} (hi : DevIn w b k s wv d) (ho : Only (fun i => i = k) w w') (kept' : List Slb) (hl : kept'.length = d.kept.length) (hb : Blk w' k 34 (rows kept')) :
    DevIn w' b k s wv { d with kept := kept' } := by
  have hn := hi.ne
  refine ⟨?_, hb, ho.blk hi.2.2.1 (Ne.symm hn.1), ho.own hi.2.2.2.1 (fun g e hg => hn.2.2.2.2.1 (hg ▸ e)), hi.2.2.2.2⟩
  have := ho.blk hi.1 hn.2.1
  simpa [hl] using this
theorem DevIn.keep1 {w w' : World} {b k s : Nat} {wv : Value} {d : Dev} (hi : DevIn w b k s wv d) {H : Nat} (ho : Only (fun i => i = H) w w') (hH : w.heap.size ≤ H) : DevIn w' b k s wv d :=
  hi.keep ho (fun i h e => by have := hi.lt i h; omega)

theorem Dev.Good.synced {d : Dev} (h : d.Good) : ({ d with kept := over d.kept d.written, written := [] } : Dev).Good :=
  ⟨by rw [over_length]; exact h.seen, by rw [over_length]; exact h.few, over_128 _ _ h.k128 (fun q hq => (h.wat q hq).2), h.s128, fun p hp => by simp at hp, h.lo, h.hi⟩
theorem DevIn.keep1' {w0 w w' : World} {b k s : Nat} {wv : Value} {d d0 : Dev} (hi : DevIn w b k s wv d) {H : Nat} (ho : Only (fun i => i = H) w w') (h0 : DevIn w0 b k s wv d0) (hH : w0.heap.size ≤ H := by exact Nat.le_refl _) : DevIn w' b k s wv d :=
  hi.keep ho (fun i h e => by have := h0.lt i h; omega)
set_option maxHeartbeats 1000000 in
set_option maxRecDepth 100000 in
theorem sync_yes (w : World) (b : Nat) (F : Nat → Prop) (d : Dev) (h : DevRep w b F d) (hwl : d.written.length ≤ 1000000) (hm : d.stops = false) :
    Calls Try.prog 18 #[.pointer (some ⟨b, 0, none⟩)] w (DevPost w b F d.sync.1 (.int .i64 d.sync.2)) := by
  have hlt := h.lt
  have hG := h.good
  have HS : Hid (d.sync = ({ d.after with kept := over d.kept d.written, written := [] }, 0)) := by show _ = _; simp [Dev.sync, hm]
  go_enter Try.func18, Try.ntmps18
  go_wp2_with (go_at_call 78; refine (may_any _ b F d h).mono ?_; rintro e w1 ⟨rfl, hr1, ho1⟩; obtain ⟨k, s, wv, hi, hg1, rfl⟩ := hr1; obtain ⟨A, c, hA, hrow⟩ := own_cases hi.2.2.2.1; subst hA; have c2 : w1.cell? ⟨b, 2, none⟩ = some (.slice A d.after.written.length c) := (hi.1.cell 2).trans rfl; have HI := hide hi; clear hi)
  have hwn : d.after.written.length = d.written.length := rfl
  have HWN := hide hwn
  have hwl' : d.after.written.length ≤ 1000000 := hwl
  clear hwn
  go_loopw [13] (fun i wr => ∃ j : Nat, j ≤ d.after.written.length ∧ i = .int .i64 j ∧ DevIn wr b k s (.slice A d.after.written.length c) { d.after with kept := over d.kept (d.written.take j) } ∧ Only (fun x => x = k) w1 wr) (fun i _ => d.after.written.length - (intOf i).toNat)
  case atStart => exact ⟨0, by omega, rfl, HI.out, Only.refl _ _⟩
  case round =>
    obtain ⟨j, hj, rfl, hi, ho⟩ := hrel
    by_cases hlt : j < d.after.written.length
    · obtain ⟨g, hAg, cs, hcs, hget⟩ := hrow (by omega)
      obtain ⟨p, hp⟩ : ∃ p, d.written[j]? = some p := ⟨_, List.getElem?_eq_getElem hlt⟩
      have hpw := hG.wat p (List.mem_of_getElem? hp)
      subst hAg
      obtain ⟨at_, sl⟩ := p
      simp only at hpw
      have hgk : ¬ g = k := by
        have := HI.out.ne.2.2.2.2.1
        intro e; exact this (by simp [Value.ownBlock, e])
      have hcr : Blk wr g 125 cs := ho.blk hcs hgk
      have hget' : ∀ (i : Nat) (v : Value), (Value.int .i64 (at_ : Int) :: enc sl)[i]? = some v → cs[j * 129 + i]? = some v :=
        fun i v hv => hget _ _ (wcells_get d.written j (at_, sl) (fun q hq => (hG.wat q hq).2) hp i v hv)
      have I91 := hide (isz91' at_ sl hpw.2)
      have I33 := hide (isz33' sl hpw.2)
      have u91 := hide Try.underlying125
      have j0 : (0 : Int) ≤ (j : Int) := by omega
      have j1 : (j : Int) < (d.after.written.length : Int) := by omega
      have HR := hide hi
      have HC := hide hcr
      have HO := hide ho
      have HP := hide hp
      clear hi hcr ho hcs hget hrow c2 hp
      go_wp2_with (first
        | (refine wpList_load_blk rfl 125 _ rfl g (j * 129) 125 cs (Value.int .i64 (at_ : Int) :: enc sl) _ (by rfl) HC.out hget' u91.out rfl I91.out ?_; simp only [Act.put, List.setIfInBounds_toArray, List.set_cons_zero, List.set_cons_succ])
        | (refine wpList_alloc_agg rfl 125 rfl (Value.int .i64 0 :: enc zeroS) zero91 ?_; simp only [Act.put, List.setIfInBounds_toArray, List.set_cons_zero, List.set_cons_succ])
        | (refine wpList_store_blk rfl 125 _ _ rfl wr.heap.size 0 125 (Value.int .i64 0 :: enc zeroS) (Value.int .i64 (at_ : Int) :: enc sl) (by rfl) (by rfl) (Blk.new wr _ _) (Nat.le_of_eq (by rw [chg_length _ _ hpw.2, chg_length _ _ zeroS_length])) I91.out (cons_one _ _) ?_; intro w2 o2 z2 b2; simp only [Act.put]))
      rw [lay_all _ _ (by rw [chg_length _ _ hpw.2, chg_length _ _ zeroS_length])] at b2
      have hi2 : DevIn w2 b k s (.slice (some ⟨g, 0, none⟩) d.after.written.length c) { d.after with kept := over d.kept (d.written.take j) } :=
        (HR.out.keep1 ((Only.refl (fun i => i = wr.heap.size) wr).alloc _) (Nat.le_refl _)).keep1' o2 HR.out
      have hk128 : ∀ t ∈ over d.kept (d.written.take j), t.length = 128 := over_128 _ _ hG.k128 (fun q hq => (hG.wat q (List.mem_of_mem_take hq)).2)
      have hlen : (over d.kept (d.written.take j)).length = d.kept.length := over_length _ _
      have c0 : w2.cell? ⟨b, 0, none⟩ = some (.slice (some ⟨k, 0, none⟩) d.kept.length d.kept.length) := by rw [hi2.1.cell]; simp [hlen]
      have cH : w2.cell? ⟨wr.heap.size, 0, none⟩ = some (.int .i64 (at_ : Int)) := by rw [b2.cell]; rfl
      have rH : w2.rangeAt wr.heap.size 1 (enc sl) := b2.range 1 _ (fun i v hv => by rw [Nat.add_comm, List.getElem?_cons_succ]; exact hv)
      have tK : w2.there k (at_ * 128) 128 := hi2.2.1.there _ _ (by show _ ≤ (rows (over d.kept (d.written.take j))).length; rw [rows_length _ hk128, hlen]; omega)
      have hbk : b ≠ k := hi2.ne.2.1
      have hHk : wr.heap.size ≠ k := fun e => by have := HR.out.lt k (.inr (.inl rfl)); omega
      have i0 : (0 : Int) ≤ (at_ : Int) := by omega
      have i1 : (at_ : Int) < (d.kept.length : Int) := by omega
      have hu := Try.underlying34
      have hsz := I33.out
      have hone := enc_one sl
      have hlen2 : (enc sl).length = 128 := by rw [enc_length, hpw.2]
      have H2 := hide hi2
      have B2 := hide b2
      clear hi2 b2 hlen hk128
      go_region_held3 (fun w' => w'.cell? ⟨b, 0, none⟩ = some (.slice (some ⟨k, 0, none⟩) d.kept.length d.kept.length) ∧ w'.cell? ⟨wr.heap.size, 0, none⟩ = some (.int .i64 (at_ : Int)) ∧ w'.rangeAt wr.heap.size 1 (enc sl) ∧ w'.there k (at_ * 128) 128)
        (first | go_keep_ranges | (go_split_ands; exact ⟨keep_cell (by assumption) hbk, keep_cell (by assumption) hHk, World.rangeAt_setCells_apart (by assumption) _ _ _ (.inl hHk), World.there_setCells (by assumption) _ _ _⟩)) (fail)
      clear hu hsz hone hlen2 c0 cH rH tK
      go_wp2
      go_roundw
      case rel =>
        have hk128 : ∀ t ∈ over d.kept (d.written.take j), t.length = 128 := over_128 _ _ hG.k128 (fun q hq => (hG.wat q (List.mem_of_mem_take hq)).2)
        have oS : Only (fun i => i = k) w2 (w2.drew.setCells k (at_ * 128) (enc sl)) := Only.setCells (F := fun i => i = k) (.inr rfl) _ _ _ (Only.refl _ w2).drew
        have bS : Blk (w2.drew.setCells k (at_ * 128) (enc sl)) k 34 (rows (over d.kept (d.written.take (j + 1)))) := by
          have := Blk.cells (enc sl) (at_ * 128) w2.drew _ (show Blk w2.drew k _ _ from H2.out.2.1)
          rw [show (({ d.after with kept := over d.kept (d.written.take j) } : Dev)).kept = over d.kept (d.written.take j) from rfl,
            rows_set _ at_ sl hk128 hpw.2 (by rw [over_length]; exact hpw.1)] at this
          rw [over_take_succ _ _ _ _ HP.out]
          exact this
        refine ⟨j + 1, by omega, by go_num, ?_, ?_⟩
        · exact H2.out.lay oS _ (by rw [over_length]; exact (over_length _ _).symm) bS
        · have o1 : Only (fun x => x = k) w1 w2 := HO.out.trans ((((Only.refl (fun i => i = wr.heap.size) wr).alloc _).trans o2 (fun _ _ h => h))) (fun i hi e => by have := HO.out.size; omega)
          exact o1.trans oS (fun _ _ h => h)
      case measure => simp [intOf]; omega
    · have hj' : j = d.after.written.length := by omega
      have c2' : wr.cell? ⟨b, 2, none⟩ = some (.slice A d.after.written.length c) := by rw [hi.1.cell]; rfl
      have f2 := hi.1.frozen 2
      have HR := hide hi
      clear hi hrow c2
      go_wp2
      go_ret
      have hi := HR.out
      have ho1' := ho1.trans ho (fun i _ e => .inr (.inl e))
      have oL : Only (fun i => i = b) wr (wr.setCell ⟨b, 2, none⟩ (.slice none 0 0)) := (Only.refl (fun i => i = b) wr).setCell (p := ⟨b, 2, none⟩) (.inr rfl) _
      have hn := hi.ne
      have htk : d.written.take j = d.written := by rw [hj']; exact List.take_length
      refine ⟨by rw [HS.out]; rfl, fun i => i = b ∨ i = k ∨ i = s ∨ Value.ownBlock (.slice none 0 0) = some i, ⟨k, s, _, ?_, ?_, rfl⟩, ho1'.trans oL (fun i _ e => .inl e), ?_⟩
      · rw [HS.out]
        rw [htk] at hi
        refine ⟨?_, oL.blk hi.2.1 (Ne.symm hn.2.1), oL.blk hi.2.2.1 (Ne.symm hn.2.2.1), World.ownsRow_nil _ _ _ _, hi.2.2.2.2⟩
        exact hi.1.set_ 2 _
      · rw [HS.out]
        exact hG.after.synced
      · rintro i (rfl | rfl | rfl | h)
        · left; exact .inl rfl
        · left; exact .inr (.inl rfl)
        · left; exact .inr (.inr (.inl rfl))
        · simp [Value.ownBlock] at h
theorem sync_any (w : World) (b : Nat) (F : Nat → Prop) (d : Dev) (h : DevRep w b F d) (hwl : d.written.length ≤ 1000000) :
    Calls Try.prog 18 #[.pointer (some ⟨b, 0, none⟩)] w (DevPost w b F d.sync.1 (.int .i64 d.sync.2)) := by
  cases hm : d.stops with
  | false => exact sync_yes w b F d h hwl hm
  | true =>
    have HS : d.sync = (d.after, 132) := by simp [Dev.sync, hm]
    rw [HS]
    clear HS
    go_enter Try.func18, Try.ntmps18
    go_wp2_with (go_at_call 78; refine (may_any _ b F d h).mono ?_; rintro e w1 ⟨rfl, hr1, ho1⟩)
    go_ret
    exact ⟨rfl, F, hr1, ho1, fun _ h => .inl h⟩
end Go.Proofs.Ytjnpkcabkccaoaa
/-
  The device: Restart.
-/
namespace Go.Proofs.Ytjnpkcabkccaoaa
open Go.RowKit

/-- The first n bytes of one, the others of another. -/
def tear (sl old : Slb) (n : Int) : Slb := sl.take (min n 128).toNat ++ old.drop (min n 128).toNat
/-- The kept slabs behind j rounds of the first loop. -/
def lossy (l : List Slb) (ws : List (Nat × Slb)) (bs : List Int) : Nat → List Slb
  | 0 => l
  | j + 1 => match ws[j]?, bs[j]? with
    | some p, some n => (lossy l ws bs j).set p.1 (tear p.2 ((lossy l ws bs j)[p.1]?.getD []) n)
    | _, _ => lossy l ws bs j
/-- The seen ones behind j rounds of the second. -/
def back (seen kept : List Slb) (ws : List (Nat × Slb)) : Nat → List Slb
  | 0 => seen
  | j + 1 => match ws[j]? with
    | some p => (back seen kept ws j).set p.1 (kept[p.1]?.getD [])
    | none => back seen kept ws j
def Dev.restart (d : Dev) (bs : List Int) : Dev :=
  { kept := lossy d.kept d.written bs d.written.length, seen := back d.seen (lossy d.kept d.written bs d.written.length) d.written d.written.length, written := [], budget := -1, down := false }
theorem lossy_length (l : List Slb) (ws : List (Nat × Slb)) (bs : List Int) (j : Nat) : (lossy l ws bs j).length = l.length := by
  induction j with
  | zero => rfl
  | succ j ih => unfold lossy; split <;> simp [ih]
theorem back_length (l k : List Slb) (ws : List (Nat × Slb)) (j : Nat) : (back l k ws j).length = l.length := by
  induction j with
  | zero => rfl
  | succ j ih => unfold back; split <;> simp [ih]
theorem tear_length (sl old : Slb) (n : Int) (h1 : sl.length = 128) (h2 : old.length = 128) : (tear sl old n).length = 128 := by
  simp [tear, h1, h2]; omega
theorem lossy_128 (l : List Slb) (ws : List (Nat × Slb)) (bs : List Int) (h : ∀ s ∈ l, s.length = 128) (hw : ∀ p ∈ ws, p.1 < l.length ∧ p.2.length = 128) (j : Nat) : ∀ s ∈ lossy l ws bs j, s.length = 128 := by
  induction j with
  | zero => exact h
  | succ j ih =>
    unfold lossy
    split
    · rename_i p n hp hn
      intro s hs
      rcases List.mem_or_eq_of_mem_set hs with h1 | h1
      · exact ih s h1
      · subst h1
        have h2 := hw p (List.mem_of_getElem? hp)
        refine tear_length _ _ _ h2.2 ?_
        have hl : p.1 < (lossy l ws bs j).length := by rw [lossy_length]; exact h2.1
        rw [List.getElem?_eq_getElem hl]
        exact ih _ (List.getElem_mem hl)
    · exact ih
theorem back_128 (l k : List Slb) (ws : List (Nat × Slb)) (h : ∀ s ∈ l, s.length = 128) (hk : ∀ s ∈ k, s.length = 128) (hw : ∀ p ∈ ws, p.1 < k.length) (j : Nat) : ∀ s ∈ back l k ws j, s.length = 128 := by
  induction j with
  | zero => exact h
  | succ j ih =>
    unfold back
    split
    · rename_i p hp
      intro s hs
      rcases List.mem_or_eq_of_mem_set hs with h1 | h1
      · exact ih s h1
      · subst h1
        have hl := hw p (List.mem_of_getElem? hp)
        rw [List.getElem?_eq_getElem hl]
        exact hk _ (List.getElem_mem hl)
    · exact ih
theorem Dev.Good.restart {d : Dev} (h : d.Good) (bs : List Int) : (d.restart bs).Good := by
  have hk := lossy_128 d.kept d.written bs h.k128 h.wat d.written.length
  have hkl := lossy_length d.kept d.written bs d.written.length
  refine ⟨by simp only [Dev.restart]; rw [back_length, hkl]; exact h.seen, by simp only [Dev.restart]; rw [hkl]; exact h.few, hk, ?_, fun p hp => by simp [Dev.restart] at hp, by simp [Dev.restart], by simp [Dev.restart]⟩
  exact back_128 _ _ _ h.s128 hk (fun p hp => by rw [hkl]; exact (h.wat p hp).1) _
theorem tear_lay (l : List Slb) (at_ : Nat) (sl : Slb) (n : Int) (h128 : ∀ s ∈ l, s.length = 128) (hs : sl.length = 128) (hk : at_ < l.length) :
    Go.Proofs.Ytjnpkcabkccaoaa.lay (rows l) (at_ * 128) (enc (sl.take (min n 128).toNat)) = rows (l.set at_ (tear sl (l[at_]?.getD []) n)) := by
  have hl := rows_length l h128
  have hold : (l[at_]?.getD []).length = 128 := by rw [List.getElem?_eq_getElem hk]; exact h128 _ (List.getElem_mem hk)
  rw [← rows_set l at_ _ h128 (tear_length _ _ n hs hold) hk]
  have hml : (tear sl (l[at_]?.getD []) n).length = 128 := tear_length _ _ n hs hold
  refine List.ext_getElem? fun j => ?_
  rw [lay_get _ _ _ _ (by rw [hl, enc_length, List.length_take, hs]; omega), lay_get _ _ _ _ (by rw [hl, enc_length, hml]; omega)]
  simp only [enc_length, List.length_take, hs, hml]
  by_cases h1 : at_ * 128 ≤ j ∧ j < at_ * 128 + 128
  · rw [if_pos h1]
    by_cases h2 : j < at_ * 128 + min (min n 128).toNat 128
    · rw [if_pos ⟨h1.1, h2⟩]
      simp only [enc, tear, List.getElem?_map]
      rw [List.getElem?_append_left (by simp; omega)]
    · rw [if_neg (by omega)]
      simp only [enc, tear, List.getElem?_map]
      rw [List.getElem?_append_right (by simp; omega), List.getElem?_drop]
      have e : (min n 128).toNat + (j - at_ * 128 - (sl.take (min n 128).toNat).length) = j - at_ * 128 := by simp; omega
      rw [e]
      have hj : j - at_ * 128 < (l[at_]?.getD []).length := by rw [hold]; omega
      have hg := rows_get l at_ (l[at_]?.getD []) h128 (by rw [List.getElem?_eq_getElem hk]; rfl) (j - at_ * 128) (.int .u8 ((l[at_]?.getD [])[j - at_ * 128]))
        (by simp [enc, List.getElem?_eq_getElem hj])
      rw [show at_ * 128 + (j - at_ * 128) = j by omega] at hg
      rw [hg, List.getElem?_eq_getElem hj]
      rfl
  · rw [if_neg h1, if_neg (by omega)]

theorem DevIn.lays {w w' : World} {b k s : Nat} {wv : Value} {d : Dev} (hi : DevIn w b k s wv d) (ho : Only (fun i => i = s) w w') (seen' : List Slb) (hb : Blk w' s 34 (rows seen')) :
    DevIn w' b k s wv { d with seen := seen' } := by
  have hn := hi.ne
  exact ⟨ho.blk hi.1 hn.2.2.1, ho.blk hi.2.1 hn.1, hb, ho.own hi.2.2.2.1 (fun g e hg => hn.2.2.2.2.2 (hg ▸ e)), hi.2.2.2.2⟩
theorem restart_fin (w w5 wr : World) (b k s : Nat) (A : Option Addr) (cw : Nat) (d : Dev) (bs : List Int) (L : List Slb) (hG : d.Good) (HL : lossy d.kept d.written bs d.written.length = L)
    (h1 : Only (fun x => x = k) w w5) (h2 : Only (fun x => x = s) w5 wr) (hi : DevIn wr b k s (.slice A d.written.length cw) { d with kept := L, seen := back d.seen L d.written d.written.length }) :
    DevPost w b (fun i => i = b ∨ i = k ∨ i = s ∨ Value.ownBlock (.slice A d.written.length cw) = some i) (d.restart bs) (.tuple #[]) (.returned (.tuple #[]))
      (((wr.setCell ⟨b, 2, none⟩ (.slice none 0 0)).setCell ⟨b, 3, none⟩ (.int .i64 (-1))).setCell ⟨b, 4, none⟩ (.bool false)) := by
  have hn := hi.ne
  have oL : Only (fun i => i = b) wr (((wr.setCell ⟨b, 2, none⟩ (.slice none 0 0)).setCell ⟨b, 3, none⟩ (.int .i64 (-1))).setCell ⟨b, 4, none⟩ (.bool false)) :=
    (((Only.refl (fun i => i = b) wr).setCell (p := ⟨b, 2, none⟩) (.inr rfl) _).setCell (p := ⟨b, 3, none⟩) (.inr rfl) _).setCell (p := ⟨b, 4, none⟩) (.inr rfl) _
  have hr : d.restart bs = { kept := L, seen := back d.seen L d.written d.written.length, written := [], budget := -1, down := false } := by simp [Dev.restart, HL]
  refine ⟨rfl, fun i => i = b ∨ i = k ∨ i = s ∨ Value.ownBlock (.slice none 0 0) = some i, ⟨k, s, _, ?_, hG.restart bs, rfl⟩, ?_, ?_⟩
  · rw [hr]
    refine ⟨?_, oL.blk hi.2.1 (Ne.symm hn.2.1), oL.blk hi.2.2.1 (Ne.symm hn.2.2.1), World.ownsRow_nil _ _ _ _, hi.2.2.2.2⟩
    exact ((hi.1.set_ 2 _).set_ 3 _).set_ 4 _
  · have h3 := (h1.mono (G := fun i => i = b ∨ i = k ∨ i = s ∨ Value.ownBlock (.slice A d.written.length cw) = some i) (fun i _ h => .inr (.inl h))).trans h2 (fun i _ h => .inr (.inr (.inl h)))
    exact h3.trans oL (fun i _ h => .inl h)
  · rintro i (rfl | rfl | rfl | h)
    · left; exact .inl rfl
    · left; exact .inr (.inl rfl)
    · left; exact .inr (.inr (.inl rfl))
    · simp [Value.ownBlock] at h
theorem iszByte : (Try.prog.info? 5).map (·.size) = some 1 := by kernel_rfl
set_option maxHeartbeats 1000000 in
set_option maxRecDepth 100000 in
theorem restart_any (w : World) (b : Nat) (F : Nat → Prop) (d : Dev) (B : Option Addr) (m c : Nat) (bs : List Int) (h : DevRep w b F d) (hwl : d.written.length ≤ 1000000) (hB : Bys w B m bs) (hap : Apart B m F) (hm : m ≤ 1000000) :
    Calls Try.prog 22 #[.pointer (some ⟨b, 0, none⟩), .slice B m c] w (DevPost w b F (d.restart bs) (.tuple #[])) := by
  have hlt := h.lt
  have hG := h.good
  obtain ⟨k, s, wv, hi, _, rfl⟩ := h
  obtain ⟨A, cw, rfl, hrow⟩ := own_cases hi.2.2.2.1
  have c2 : w.cell? ⟨b, 2, none⟩ = some (.slice A d.written.length cw) := (hi.1.cell 2).trans rfl
  have HI := hide hi
  clear hi
  go_enter Try.func22, Try.ntmps22
  go_wp2
  go_loopw [14] (fun i wr => ∃ j : Nat, j ≤ d.written.length ∧ i = .int .i64 j ∧ DevIn wr b k s (.slice A d.written.length cw) { d with kept := lossy d.kept d.written bs j } ∧ Only (fun x => x = k) w wr) (fun i _ => d.written.length - (intOf i).toNat)
  case atStart => exact ⟨0, by omega, rfl, HI.out, Only.refl _ _⟩
  case round =>
    obtain ⟨j, hj, rfl, hi, ho⟩ := hrel
    by_cases hlt : j < d.written.length
    · obtain ⟨g, hAg, cs, hcs, hget⟩ := hrow (by omega)
      obtain ⟨p, hp⟩ : ∃ p, d.written[j]? = some p := ⟨_, List.getElem?_eq_getElem hlt⟩
      have hpw := hG.wat p (List.mem_of_getElem? hp)
      subst hAg
      obtain ⟨at_, sl⟩ := p
      simp only at hpw
      have hgk : ¬ g = k := by
        have := HI.out.ne.2.2.2.2.1
        intro e; exact this (by simp [Value.ownBlock, e])
      have hcr : Blk wr g 125 cs := ho.blk hcs hgk
      have hget' : ∀ (i : Nat) (v : Value), (Value.int .i64 (at_ : Int) :: enc sl)[i]? = some v → cs[j * 129 + i]? = some v :=
        fun i v hv => hget _ _ (wcells_get d.written j (at_, sl) (fun q hq => (hG.wat q hq).2) hp i v hv)
      have I91 := hide (isz91' at_ sl hpw.2)
      have u91 := hide Try.underlying125
      have j0 : (0 : Int) ≤ (j : Int) := by omega
      have j1 : (j : Int) < (d.written.length : Int) := by omega
      have hBr : Bys wr B m bs := hB.keep ho (fun hm0 ad e he => hap hm0 ad e (.inr (.inl he)))
      have HR := hide hi
      have HC := hide hcr
      have HO := hide ho
      have HP := hide hp
      have HBr := hide hBr
      clear hi hcr ho hcs hget hrow c2 hp hBr
      by_cases hk : j < m
      · obtain ⟨n, hn⟩ : ∃ n, bs[j]? = some n := ⟨_, List.getElem?_eq_getElem (by rw [hB.1]; exact hk)⟩
        have hn2 := hB.2.1 n (List.mem_of_getElem? hn)
        obtain ⟨bB, oB, hBA, hBc⟩ := HBr.out.2.2 (by omega)
        subst hBA
        have cB := hBc j n hn
        have HN := hide hn
        clear hBc hn
        have hk128 := lossy_128 d.kept d.written bs hG.k128 hG.wat j
        have hkl := lossy_length d.kept d.written bs j
        have k0 : (j : Int) < (m : Int) := by omega
        have hbk : b ≠ k := HI.out.ne.2.1
        have hHk : wr.heap.size ≠ k := fun e => by have := HR.out.lt k (.inr (.inl rfl)); omega
        have i0 : (0 : Int) ≤ (at_ : Int) := by omega
        have i1 : (at_ : Int) < (d.kept.length : Int) := by omega
        obtain ⟨nn, rfl⟩ : ∃ nn : Nat, n = nn := ⟨n.toNat, by omega⟩
        have n0 : (0 : Int) ≤ (nn : Int) := by omega
        have n1 : (nn : Int) ≤ 255 := hn2.2
        clear hn2
        have cBk : ∀ w2, Only (fun i => i = wr.heap.size) (wr.alloc (.cells (Value.int .i64 0 :: enc zeroS).toArray 125)) w2 → w2.cell? ⟨bB, oB + j, none⟩ = some (.int .u8 (nn : Int)) := fun w2 o => by
          have hl : bB < wr.heap.size := World.block_lt_of_cell? wr _ cB
          have h1 : w2.cell? ⟨bB, oB + j, none⟩ = (wr.alloc (.cells (Value.int .i64 0 :: enc zeroS).toArray 125)).cell? ⟨bB, oB + j, none⟩ := World.cell?_of_block (o.block bB (by rw [World.size_alloc]; omega) (by omega))
          rw [h1, World.cell?_alloc_lt _ _ _ (World.block_lt_of_cell? wr _ cB)]
          exact cB
        have HK := hide cBk
        clear cBk
        go_wp2_with (first
        | (refine wpList_load_blk rfl 125 _ rfl g (j * 129) 125 cs (Value.int .i64 (at_ : Int) :: enc sl) _ (by rfl) HC.out hget' u91.out rfl I91.out ?_; simp only [Act.put, List.setIfInBounds_toArray, List.set_cons_zero, List.set_cons_succ])
        | (refine wpList_alloc_agg rfl 125 rfl (Value.int .i64 0 :: enc zeroS) zero91 ?_; simp only [Act.put, List.setIfInBounds_toArray, List.set_cons_zero, List.set_cons_succ])
        | (refine wpList_store_blk rfl 125 _ _ rfl wr.heap.size 0 125 (Value.int .i64 0 :: enc zeroS) (Value.int .i64 (at_ : Int) :: enc sl) (by rfl) (by rfl) (Blk.new wr _ _) (Nat.le_of_eq (by rw [chg_length _ _ hpw.2, chg_length _ _ zeroS_length])) I91.out (cons_one _ _) ?_; intro w2 o2 z2 b2; simp only [Act.put]; have cB2 := HK.out _ o2))
        · have hNn : (min (nn : Int) 128).toNat = 128 := by omega
          have HNn := hide hNn
          clear hNn
          rw [lay_all _ _ (by rw [chg_length _ _ hpw.2, chg_length _ _ zeroS_length])] at b2
          have hi2 : DevIn w2 b k s (.slice (some ⟨g, 0, none⟩) d.written.length cw) { d with kept := lossy d.kept d.written bs j } :=
            (HR.out.keep1 ((Only.refl (fun i => i = wr.heap.size) wr).alloc _) (Nat.le_refl _)).keep1' o2 HR.out
          have c0 : w2.cell? ⟨b, 0, none⟩ = some (.slice (some ⟨k, 0, none⟩) d.kept.length d.kept.length) := by rw [hi2.1.cell]; simp [hkl]
          have cH : w2.cell? ⟨wr.heap.size, 0, none⟩ = some (.int .i64 (at_ : Int)) := by rw [b2.cell]; rfl
          have rH : ∀ (i : Nat) (v : Value), (enc (sl.take 128))[i]? = some v → w2.cell? ((⟨wr.heap.size, 1, none⟩ : Addr).add i) = some v := by
            have := b2.range 1 (enc sl) (fun i v hv => by rw [Nat.add_comm, List.getElem?_cons_succ]; exact hv)
            intro i v hv
            rw [Addr.add_mid]
            refine this i v ?_
            have e : enc (sl.take 128) = (enc sl).take 128 := by simp [enc, List.map_take]
            rw [e, List.getElem?_take] at hv
            split at hv
            · exact hv
            · cases hv
          have hmid : lay (rows (lossy d.kept d.written bs j)) (at_ * 128) (enc (sl.take 128)) = rows (lossy d.kept d.written bs (j + 1)) := by
            have := tear_lay (lossy d.kept d.written bs j) at_ sl nn hk128 hpw.2 (by rw [hkl]; exact hpw.1)
            rw [HNn.out] at this
            rw [this]
            simp [lossy, HP.out, HN.out]
          have HM := hide hmid
          have HRH := hide rH
          have bK : Hid (Blk w2 k 34 (rows (lossy d.kept d.written bs j))) := hi2.2.1
          have hfit : Hid (at_ * 128 + (enc (sl.take 128)).length ≤ (rows (lossy d.kept d.written bs j)).length) := by
            show _ ≤ _
            rw [rows_length _ hk128, hkl, enc_length, List.length_take, hpw.2]; omega
          have hmin : Hid ((enc (sl.take 128)).length = Nat.min 128 128) := by
            have e1 : (enc (sl.take 128)).length = min 128 128 := by rw [enc_length, List.length_take, hpw.2]
            have e2 : min 128 128 = 128 := by omega
            exact e1.trans (e2.trans (Nat.min_self 128).symm)
          have H2 := hide hi2
          have B2 := hide b2
          clear hi2 b2 hkl hk128 hmid rH
          go_region_held3 (fun w' => w'.cell? ⟨b, 0, none⟩ = some (.slice (some ⟨k, 0, none⟩) d.kept.length d.kept.length) ∧ w'.cell? ⟨wr.heap.size, 0, none⟩ = some (.int .i64 (at_ : Int)))
            (first | exact ⟨c0, cH⟩ | (go_split_ands; exact ⟨(World.cell?_of_block (w := w2) (o3.block b H2.out.1.lt hbk)).trans (by assumption), (World.cell?_of_block (w := w2) (o3.block wr.heap.size B2.out.lt hHk)).trans (by assumption)⟩))
            ((refine step_copy_blk (by rfl) _ _ _ _ (by rfl) 5 Try.underlying28 iszByte k (at_ * 128) 128 128 ⟨wr.heap.size, 1, none⟩ 128 128 (by rfl) (by rfl) (rows (lossy d.kept d.written bs j)) 34 bK.out (enc (sl.take 128)) hmin.out HRH.out hfit.out (enc_one _) ?_; intro w3 o3 z3 b3; have o3' : Only (fun i => i = k) w2 w3 := ⟨o3.os, o3.tape, o3.output, o3.size, o3.block⟩))
          rw [HM.out] at b3
          go_wp2
          go_roundw
          case rel =>
            refine ⟨j + 1, by omega, by go_num, ?_, ?_⟩
            · exact H2.out.lay o3' _ (by rw [lossy_length]; exact (lossy_length _ _ _ _).symm) b3
            · have o1 : Only (fun x => x = k) w w2 := HO.out.trans ((((Only.refl (fun i => i = wr.heap.size) wr).alloc _).trans o2 (fun _ _ h => h))) (fun i hi e => by have := HO.out.size; omega)
              exact o1.trans o3' (fun _ _ h => h)
          case measure => simp [intOf]; omega
        · have hNn : (min (nn : Int) 128).toNat = nn := by omega
          have HNn := hide hNn
          clear hNn
          rw [lay_all _ _ (by rw [chg_length _ _ hpw.2, chg_length _ _ zeroS_length])] at b2
          have hi2 : DevIn w2 b k s (.slice (some ⟨g, 0, none⟩) d.written.length cw) { d with kept := lossy d.kept d.written bs j } :=
            (HR.out.keep1 ((Only.refl (fun i => i = wr.heap.size) wr).alloc _) (Nat.le_refl _)).keep1' o2 HR.out
          have c0 : w2.cell? ⟨b, 0, none⟩ = some (.slice (some ⟨k, 0, none⟩) d.kept.length d.kept.length) := by rw [hi2.1.cell]; simp [hkl]
          have cH : w2.cell? ⟨wr.heap.size, 0, none⟩ = some (.int .i64 (at_ : Int)) := by rw [b2.cell]; rfl
          have rH : ∀ (i : Nat) (v : Value), (enc (sl.take nn))[i]? = some v → w2.cell? ((⟨wr.heap.size, 1, none⟩ : Addr).add i) = some v := by
            have := b2.range 1 (enc sl) (fun i v hv => by rw [Nat.add_comm, List.getElem?_cons_succ]; exact hv)
            intro i v hv
            rw [Addr.add_mid]
            refine this i v ?_
            have e : enc (sl.take nn) = (enc sl).take nn := by simp [enc, List.map_take]
            rw [e, List.getElem?_take] at hv
            split at hv
            · exact hv
            · cases hv
          have hmid : lay (rows (lossy d.kept d.written bs j)) (at_ * 128) (enc (sl.take nn)) = rows (lossy d.kept d.written bs (j + 1)) := by
            have := tear_lay (lossy d.kept d.written bs j) at_ sl nn hk128 hpw.2 (by rw [hkl]; exact hpw.1)
            rw [HNn.out] at this
            rw [this]
            simp [lossy, HP.out, HN.out]
          have HM := hide hmid
          have HRH := hide rH
          have bK : Hid (Blk w2 k 34 (rows (lossy d.kept d.written bs j))) := hi2.2.1
          have hfit : Hid (at_ * 128 + (enc (sl.take nn)).length ≤ (rows (lossy d.kept d.written bs j)).length) := by
            show _ ≤ _
            rw [rows_length _ hk128, hkl, enc_length, List.length_take, hpw.2]; omega
          have hmin : Hid ((enc (sl.take nn)).length = Nat.min nn nn) := by
            have e1 : (enc (sl.take nn)).length = min nn 128 := by rw [enc_length, List.length_take, hpw.2]
            have e2 : min nn 128 = nn := by omega
            exact e1.trans (e2.trans (Nat.min_self nn).symm)
          have H2 := hide hi2
          have B2 := hide b2
          clear hi2 b2 hkl hk128 hmid rH
          go_region_held3 (fun w' => w'.cell? ⟨b, 0, none⟩ = some (.slice (some ⟨k, 0, none⟩) d.kept.length d.kept.length) ∧ w'.cell? ⟨wr.heap.size, 0, none⟩ = some (.int .i64 (at_ : Int)))
            (first | exact ⟨c0, cH⟩ | (go_split_ands; exact ⟨(World.cell?_of_block (w := w2) (o3.block b H2.out.1.lt hbk)).trans (by assumption), (World.cell?_of_block (w := w2) (o3.block wr.heap.size B2.out.lt hHk)).trans (by assumption)⟩))
            ((refine step_copy_blk (by rfl) _ _ _ _ (by rfl) 5 Try.underlying28 iszByte k (at_ * 128) nn 128 ⟨wr.heap.size, 1, none⟩ nn 128 (by rfl) (by rfl) (rows (lossy d.kept d.written bs j)) 34 bK.out (enc (sl.take nn)) hmin.out HRH.out hfit.out (enc_one _) ?_; intro w3 o3 z3 b3; have o3' : Only (fun i => i = k) w2 w3 := ⟨o3.os, o3.tape, o3.output, o3.size, o3.block⟩))
          rw [HM.out] at b3
          go_wp2
          go_roundw
          case rel =>
            refine ⟨j + 1, by omega, by go_num, ?_, ?_⟩
            · exact H2.out.lay o3' _ (by rw [lossy_length]; exact (lossy_length _ _ _ _).symm) b3
            · have o1 : Only (fun x => x = k) w w2 := HO.out.trans ((((Only.refl (fun i => i = wr.heap.size) wr).alloc _).trans o2 (fun _ _ h => h))) (fun i hi e => by have := HO.out.size; omega)
              exact o1.trans o3' (fun _ _ h => h)
          case measure => simp [intOf]; omega
      · have hln : lossy d.kept d.written bs (j + 1) = lossy d.kept d.written bs j := by
          have : bs[j]? = none := List.getElem?_eq_none (by rw [hB.1]; omega)
          simp [lossy, HP.out, this]
        have k0 : (m : Int) ≤ (j : Int) := by omega
        have HL := hide hln
        clear hln
        go_wp2_with (first
        | (refine wpList_load_blk rfl 125 _ rfl g (j * 129) 125 cs (Value.int .i64 (at_ : Int) :: enc sl) _ (by rfl) HC.out hget' u91.out rfl I91.out ?_; simp only [Act.put, List.setIfInBounds_toArray, List.set_cons_zero, List.set_cons_succ])
        | (refine wpList_alloc_agg rfl 125 rfl (Value.int .i64 0 :: enc zeroS) zero91 ?_; simp only [Act.put, List.setIfInBounds_toArray, List.set_cons_zero, List.set_cons_succ])
        | (refine wpList_store_blk rfl 125 _ _ rfl wr.heap.size 0 125 (Value.int .i64 0 :: enc zeroS) (Value.int .i64 (at_ : Int) :: enc sl) (by rfl) (by rfl) (Blk.new wr _ _) (Nat.le_of_eq (by rw [chg_length _ _ hpw.2, chg_length _ _ zeroS_length])) I91.out (cons_one _ _) ?_; intro w2 o2 z2 b2; simp only [Act.put]))
        go_roundw
        case rel =>
          refine ⟨j + 1, by omega, by go_num, ?_, ?_⟩
          · rw [HL.out]
            exact (HR.out.keep1 ((Only.refl (fun i => i = wr.heap.size) wr).alloc _) (Nat.le_refl _)).keep1' o2 HR.out
          · exact HO.out.trans ((((Only.refl (fun i => i = wr.heap.size) wr).alloc _).trans o2 (fun _ _ h => h))) (fun i hi e => by have := HO.out.size; omega)
        case measure => simp [intOf]; omega
    · have hj' : j = d.written.length := by omega
      subst hj'
      have c2' : wr.cell? ⟨b, 2, none⟩ = some (.slice A d.written.length cw) := by rw [hi.1.cell]; rfl
      have hrowr : Hid (0 < d.written.length → ∃ g : Nat, A = some ⟨g, 0, none⟩ ∧ ∃ cs : List Value, Blk wr g 125 cs ∧ ∀ (j : Nat) (u : Value), (wcells d.written)[j]? = some u → cs[j]? = some u) := by
        intro h0
        obtain ⟨g, hAg, cs, hcs, hget⟩ := hrow h0
        refine ⟨g, hAg, cs, ho.blk hcs ?_, hget⟩
        have := HI.out.ne.2.2.2.2.1
        intro e; exact this (by simp [Value.ownBlock, hAg, e])
      have HR := hide hi
      have HO := hide ho
      clear hi hrow c2 ho
      obtain ⟨w5, hw5⟩ : ∃ w5, w5 = wr := ⟨_, rfl⟩
      subst hw5
      go_wp2
      go_loopw [48] (fun i wr => ∃ q : Nat, q ≤ d.written.length ∧ i = .int .i64 q ∧ DevIn wr b k s (.slice A d.written.length cw) { d with kept := lossy d.kept d.written bs d.written.length, seen := back d.seen (lossy d.kept d.written bs d.written.length) d.written q } ∧ Only (fun x => x = s) w5 wr) (fun i _ => d.written.length - (intOf i).toNat)
      case atStart => exact ⟨0, by omega, rfl, HR.out, Only.refl _ _⟩
      case round =>
        obtain ⟨q, hq, rfl, hi, ho⟩ := hrel
        have hkl := lossy_length d.kept d.written bs d.written.length
        have hk128 := lossy_128 d.kept d.written bs hG.k128 hG.wat d.written.length
        generalize hL : lossy d.kept d.written bs d.written.length = L at *
        have HL := hide hL
        clear hL
        by_cases hlt : q < d.written.length
        · obtain ⟨g, hAg, cs, hcs, hget⟩ := hrowr.out (by omega)
          obtain ⟨p, hp⟩ : ∃ p, d.written[q]? = some p := ⟨_, List.getElem?_eq_getElem hlt⟩
          have hpw := hG.wat p (List.mem_of_getElem? hp)
          subst hAg
          obtain ⟨at_, sl⟩ := p
          simp only at hpw
          have hgs : ¬ g = s := by
            have := HI.out.ne.2.2.2.2.2
            intro e; exact this (by simp [Value.ownBlock, e])
          have hcr : Blk wr g 125 cs := ho.blk hcs hgs
          have hget' : ∀ (i : Nat) (v : Value), (Value.int .i64 (at_ : Int) :: enc sl)[i]? = some v → cs[q * 129 + i]? = some v :=
            fun i v hv => hget _ _ (wcells_get d.written q (at_, sl) (fun q hq => (hG.wat q hq).2) hp i v hv)
          have I91 := hide (isz91' at_ sl hpw.2)
          have u91 := hide Try.underlying125
          have j0 : (0 : Int) ≤ (q : Int) := by omega
          have j1 : (q : Int) < (d.written.length : Int) := by omega
          have HR2 := hide hi
          have HC := hide hcr
          have HO2 := hide ho
          have HP := hide hp
          clear hi hcr ho hcs hget hp
          go_wp2_with (first
            | (refine wpList_load_blk rfl 125 _ rfl g (q * 129) 125 cs (Value.int .i64 (at_ : Int) :: enc sl) _ (by rfl) HC.out hget' u91.out rfl I91.out ?_; simp only [Act.put, List.setIfInBounds_toArray, List.set_cons_zero, List.set_cons_succ])
            | (refine wpList_alloc_agg rfl 125 rfl (Value.int .i64 0 :: enc zeroS) zero91 ?_; simp only [Act.put, List.setIfInBounds_toArray, List.set_cons_zero, List.set_cons_succ])
            | (refine wpList_store_blk rfl 125 _ _ rfl wr.heap.size 0 125 (Value.int .i64 0 :: enc zeroS) (Value.int .i64 (at_ : Int) :: enc sl) (by rfl) (by rfl) (Blk.new wr _ _) (Nat.le_of_eq (by rw [chg_length _ _ hpw.2, chg_length _ _ zeroS_length])) I91.out (cons_one _ _) ?_; intro w2 o2 z2 b2; simp only [Act.put]))
          rw [lay_all _ _ (by rw [chg_length _ _ hpw.2, chg_length _ _ zeroS_length])] at b2
          have hi2 : DevIn w2 b k s (.slice (some ⟨g, 0, none⟩) d.written.length cw) { d with kept := L, seen := back d.seen L d.written q } :=
            (HR2.out.keep1 ((Only.refl (fun i => i = wr.heap.size) wr).alloc _) (Nat.le_refl _)).keep1' o2 HR2.out
          have hbl := back_length d.seen L d.written q
          have hs128 := back_128 d.seen L d.written hG.s128 hk128 (fun p hp => by rw [hkl]; exact (hG.wat p hp).1) q
          obtain ⟨old, hold⟩ : ∃ old, L[at_]? = some old := ⟨_, List.getElem?_eq_getElem (by rw [hkl]; exact hpw.1)⟩
          have hold128 : old.length = 128 := hk128 old (List.mem_of_getElem? hold)
          have c0 : w2.cell? ⟨b, 0, none⟩ = some (.slice (some ⟨k, 0, none⟩) d.kept.length d.kept.length) := by rw [hi2.1.cell]; simp [hkl]
          have c1 : w2.cell? ⟨b, 1, none⟩ = some (.slice (some ⟨s, 0, none⟩) d.kept.length d.kept.length) := by rw [hi2.1.cell]; simp [hkl]
          have cH : w2.cell? ⟨wr.heap.size, 0, none⟩ = some (.int .i64 (at_ : Int)) := by rw [b2.cell]; rfl
          have rK : w2.rangeAt k (at_ * 128) (enc old) := hi2.2.1.range _ _ (rows_get L at_ old hk128 hold)
          have tS : w2.there s (at_ * 128) 128 := hi2.2.2.1.there _ _ (by show _ ≤ (rows (back d.seen L d.written q)).length; rw [rows_length _ hs128, hbl, hG.seen]; omega)
          have hbs : b ≠ s := hi2.ne.2.2.1
          have hks : k ≠ s := hi2.ne.1
          have hHs : wr.heap.size ≠ s := fun e => by have := HR2.out.lt s (.inr (.inr (.inl rfl))); omega
          have i0 : (0 : Int) ≤ (at_ : Int) := by omega
          have i1 : (at_ : Int) < (d.kept.length : Int) := by omega
          have hu := Try.underlying34
          have hsz := isz33' old hold128
          have hone := enc_one old
          have hlen2 : (enc old).length = 128 := by rw [enc_length, hold128]
          have hnext : Hid (lay (rows (back d.seen L d.written q)) (at_ * 128) (enc old) = rows (back d.seen L d.written (q + 1))) := by
            show _ = _
            rw [rows_set _ at_ old hs128 hold128 (by rw [hbl, hG.seen]; exact hpw.1)]
            simp [back, HP.out, hold]
          have H2 := hide hi2
          have B2 := hide b2
          clear hi2 b2 hkl hk128 hbl hs128 hold
          go_region_held3 (fun w' => w'.cell? ⟨b, 0, none⟩ = some (.slice (some ⟨k, 0, none⟩) d.kept.length d.kept.length) ∧ w'.cell? ⟨b, 1, none⟩ = some (.slice (some ⟨s, 0, none⟩) d.kept.length d.kept.length) ∧ w'.cell? ⟨wr.heap.size, 0, none⟩ = some (.int .i64 (at_ : Int)) ∧ w'.rangeAt k (at_ * 128) (enc old) ∧ w'.there s (at_ * 128) 128)
            (first | go_keep_ranges | (go_split_ands; exact ⟨keep_cell (by assumption) hbs, keep_cell (by assumption) hbs, keep_cell (by assumption) hHs, World.rangeAt_setCells_apart (by assumption) _ _ _ (.inl hks), World.there_setCells (by assumption) _ _ _⟩)) (fail)
          clear hu hsz hone hlen2 c0 c1 cH rK tS
          go_wp2
          go_roundw
          case rel =>
            have oS : Only (fun i => i = s) w2 (w2.drew.setCells s (at_ * 128) (enc old)) := Only.setCells (F := fun i => i = s) (.inr rfl) _ _ _ (Only.refl _ w2).drew
            have bS := Blk.cells (enc old) (at_ * 128) w2.drew _ (show Blk w2.drew s _ _ from H2.out.2.2.1)
            rw [show (({ d with kept := L, seen := back d.seen L d.written q } : Dev)).seen = back d.seen L d.written q from rfl, hnext.out] at bS
            refine ⟨q + 1, by omega, by go_num, H2.out.lays oS _ bS, ?_⟩
            have o1 : Only (fun x => x = s) w5 w2 := HO2.out.trans ((((Only.refl (fun i => i = wr.heap.size) wr).alloc _).trans o2 (fun _ _ h => h))) (fun i hi e => by have := HO2.out.size; omega)
            exact o1.trans oS (fun _ _ h => h)
          case measure => simp [intOf]; omega
        · have hq' : q = d.written.length := by omega
          subst hq'
          have c2 : wr.cell? ⟨b, 2, none⟩ = some (.slice A d.written.length cw) := by rw [hi.1.cell]; rfl
          have c3 : wr.cell? ⟨b, 3, none⟩ = some (.int .i64 d.budget) := by rw [hi.1.cell]; rfl
          have c4 : wr.cell? ⟨b, 4, none⟩ = some (.bool d.down) := by rw [hi.1.cell]; rfl
          have f2 := hi.1.frozen 2
          have f3 := hi.1.frozen 3
          have f4 := hi.1.frozen 4
          have HR2 := hide hi
          have HO2 := hide ho
          clear hi ho c2' hkl hk128
          go_wp2
          go_end0
          exact restart_fin w w5 wr b k s A cw d bs L hG HL.out HO.out HO2.out HR2.out
end Go.Proofs.Ytjnpkcabkccaoaa
/-
  Plain laws of the device: no program in sight.
-/
namespace Go.Proofs.Ytjnpkcabkccaoaa

/-- What is seen is what is kept, with what was written laid over it. -/
def Dev.Ok (d : Dev) : Prop := d.seen = over d.kept d.written
def touches (ws : List (Nat × Slb)) (p : Nat) : Bool := ws.any (fun q => q.1 == p)
theorem over_untouched (l : List Slb) (ws : List (Nat × Slb)) (p : Nat) (h : touches ws p = false) : (over l ws)[p]? = l[p]? := by
  unfold over
  induction ws generalizing l with
  | nil => rfl
  | cons q ws ih =>
    simp only [touches, List.any_cons, Bool.or_eq_false_iff, beq_eq_false_iff_ne, ne_eq] at h
    rw [List.foldl_cons, ih _ (by simpa [touches] using h.2), List.getElem?_set_ne h.1]
theorem touches_take (ws : List (Nat × Slb)) (p j : Nat) (q : Nat × Slb) (h : ws[j]? = some q) : touches (ws.take (j + 1)) p = (touches (ws.take j) p || q.1 == p) := by
  have hj : j < ws.length := (List.getElem?_eq_some_iff.1 h).1
  have : ws.take (j + 1) = ws.take j ++ [q] := by
    rw [List.take_succ_eq_append_getElem hj]
    congr 2
    rw [List.getElem?_eq_getElem hj] at h
    exact Option.some.inj h
  simp [this, touches]
theorem lossy_untouched (l : List Slb) (ws : List (Nat × Slb)) (bs : List Int) (p : Nat) (j : Nat) (hj : j ≤ ws.length) (h : touches (ws.take j) p = false) : (lossy l ws bs j)[p]? = l[p]? := by
  induction j with
  | zero => rfl
  | succ j ih =>
    obtain ⟨q, hq⟩ : ∃ q, ws[j]? = some q := ⟨_, List.getElem?_eq_getElem (by omega)⟩
    rw [touches_take ws p j q hq] at h
    simp only [Bool.or_eq_false_iff, beq_eq_false_iff_ne, ne_eq] at h
    unfold lossy
    split
    · rename_i q' n hq' hn
      rw [hq] at hq'; injection hq' with e; subst e
      rw [List.getElem?_set_ne h.2]
      exact ih (by omega) h.1
    · exact ih (by omega) h.1
theorem lossy_none (l : List Slb) (ws : List (Nat × Slb)) (j : Nat) : lossy l ws [] j = l := by
  induction j with
  | zero => rfl
  | succ j ih => unfold lossy; split <;> simp_all
theorem back_get (l k : List Slb) (ws : List (Nat × Slb)) (hk : k.length = l.length) (p : Nat) (j : Nat) (hj : j ≤ ws.length) : (back l k ws j)[p]? = if touches (ws.take j) p then k[p]? else l[p]? := by
  induction j with
  | zero => simp [back, touches]
  | succ j ih =>
    obtain ⟨q, hq⟩ : ∃ q, ws[j]? = some q := ⟨_, List.getElem?_eq_getElem (by omega)⟩
    rw [touches_take ws p j q hq]
    have e : back l k ws (j + 1) = (back l k ws j).set q.1 (k[q.1]?.getD []) := by simp [back, hq]
    rw [e]
    by_cases hp : q.1 = p
    · subst hp
      simp only [beq_self_eq_true, Bool.or_true, if_true]
      by_cases hl : q.1 < l.length
      · rw [List.getElem?_set_self (by rw [back_length]; exact hl), List.getElem?_eq_getElem (by omega)]
        rfl
      · rw [List.getElem?_eq_none (by rw [List.length_set, back_length]; omega), List.getElem?_eq_none (by omega)]
    · rw [List.getElem?_set_ne hp, ih (by omega)]
      have : (q.1 == p) = false := by simpa using hp
      simp [this]
theorem back_over (l : List Slb) (ws : List (Nat × Slb)) (bs : List Int) : back (over l ws) (lossy l ws bs ws.length) ws ws.length = lossy l ws bs ws.length := by
  refine List.ext_getElem? fun p => ?_
  rw [back_get _ _ _ (by rw [lossy_length, over_length]) p _ (Nat.le_refl _), List.take_length]
  by_cases h : touches ws p = true
  · rw [if_pos h]
  · have h' : touches ws p = false := by simpa using h
    rw [if_neg h, over_untouched _ _ _ h', lossy_untouched l ws bs p ws.length (Nat.le_refl _) (by rw [List.take_length]; exact h')]
theorem newDev_ok (n : Int) : (newDev n).Ok := by simp [Dev.Ok, newDev, over]
theorem Dev.Ok.after {d : Dev} (h : d.Ok) : d.after.Ok := h
theorem Dev.Ok.limit {d : Dev} (h : d.Ok) (n : Int) : (d.limit n).Ok := h
theorem Dev.Ok.write {d : Dev} (h : d.Ok) (a : Int) (s : Slb) : (d.write a s).1.Ok := by
  unfold Dev.write
  split
  · split
    · exact h
    · show d.seen.set a.toNat s = over d.kept (d.written ++ [(a.toNat, s)])
      rw [over_snoc, h]
  · exact h
theorem Dev.Ok.sync {d : Dev} (h : d.Ok) : d.sync.1.Ok := by
  unfold Dev.sync
  split
  · exact h
  · show d.seen = over (over d.kept d.written) []
    rw [h]; rfl
theorem Dev.Ok.restart {d : Dev} (h : d.Ok) (bs : List Int) : (d.restart bs).Ok := by
  show back d.seen (lossy d.kept d.written bs d.written.length) d.written d.written.length = over (lossy d.kept d.written bs d.written.length) []
  rw [h, back_over]; rfl
/-- A device that stopped stays as it is. -/
theorem after_down {d : Dev} (h : d.down = true) : d.after = d := by
  cases d
  simp only at h
  subst h
  simp [Dev.after, Dev.stops]
theorem stops_down {d : Dev} (h : d.down = true) : d.stops = true := by simp [Dev.stops, h]
theorem sync_down {d : Dev} (h : d.down = true) : d.sync = (d, 132) := by simp [Dev.sync, stops_down h, after_down h]
theorem write_down {d : Dev} (h : d.down = true) (a : Int) (s : Slb) (hh : d.has a = true) : d.write a s = (d, 132) := by simp [Dev.write, stops_down h, after_down h, hh]
theorem read_restart_nil {d : Dev} (h : d.Ok) (a : Int) (hk : ∀ s ∈ d.kept, s = zeroS) : ((d.restart []).read a).1 = zeroS := by
  have hs := h.restart []
  unfold Dev.read
  split
  · rename_i hh
    have e : (d.restart []).seen = d.kept := by
      rw [hs]
      show over (lossy d.kept d.written [] d.written.length) [] = d.kept
      rw [lossy_none]; rfl
    rw [e]
    cases hg : d.kept[a.toNat]? with
    | none => rfl
    | some s => exact hk s (List.mem_of_getElem? hg)
  · rfl

/-! ### SlabDown: the device behind k rounds -/
def downAt (n : Int) : Nat → Dev
  | 0 => (newDev 7).limit n
  | k + 1 => ((downAt n k).write (((k : Int)) % 7) (fullS (k : Int))).1
structure DownInv (n : Int) (k : Nat) (d : Dev) : Prop where
  ok : d.Ok
  kept : d.kept = List.replicate 7 zeroS
  few : d.written.length ≤ k
  live : (k : Int) ≤ n → d.down = false ∧ d.budget = n - k
  dead : n < k → d.down = true
theorem has7 {d : Dev} (h : d.kept = List.replicate 7 zeroS) (a : Int) : d.has a = (decide (0 ≤ a) && decide (a < 7)) := by
  simp [Dev.has, h]
theorem downAt_inv (n : Int) (h0 : 0 ≤ n) (k : Nat) (hk : (k : Int) ≤ n + 1) : DownInv n k (downAt n k) := by
  induction k with
  | zero =>
    refine ⟨(newDev_ok 7).limit n, rfl, by simp [downAt, Dev.limit, newDev], fun _ => ⟨rfl, ?_⟩, fun h => by simp at h; omega⟩
    show max n (-1) = n - ((0 : Nat) : Int)
    omega
  | succ k ih =>
    have hi := ih (by omega)
    have hhas : (downAt n k).has ((k : Int) % 7) = true := by rw [has7 hi.kept]; simp; omega
    have hl := hi.live (by omega)
    by_cases hz : (k : Int) = n
    · have hst : (downAt n k).stops = true := by simp [Dev.stops, hl.2, hz]
      have e : downAt n (k + 1) = (downAt n k).after := by simp [downAt, Dev.write, hhas, hst]
      rw [e]
      refine ⟨hi.ok, hi.kept, by show (downAt n k).written.length ≤ _; have := hi.few; omega, fun h => by omega, fun _ => by simp [Dev.after, hst]⟩
    · have hst : (downAt n k).stops = false := by simp [Dev.stops, hl.1, hl.2]; omega
      have e : downAt n (k + 1) = { (downAt n k).after with seen := (downAt n k).seen.set ((k : Int) % 7).toNat (fullS (k : Int)), written := (downAt n k).written ++ [(((k : Int) % 7).toNat, fullS (k : Int))] } := by
        simp [downAt, Dev.write, hhas, hst]
      have hok : (downAt n (k + 1)).Ok := hi.ok.write _ _
      refine ⟨hok, ?_, ?_, fun h => ?_, fun h => by omega⟩
      · rw [e]; exact hi.kept
      · rw [e]; simp; exact hi.few
      · rw [e]
        refine ⟨by simp [Dev.after, hst], ?_⟩
        have hpos : 0 < (downAt n k).budget := by rw [hl.2]; omega
        have e2 : (downAt n k).after.budget = (downAt n k).budget - 1 := by simp [Dev.after, hst, hpos]
        show (downAt n k).after.budget = _
        rw [e2, hl.2]
        omega
theorem down_write (n : Int) (h0 : 0 ≤ n) (k : Nat) (hk : (k : Int) ≤ n) : ((downAt n k).write ((k : Int) % 7) (fullS (k : Int))).2 = if (k : Int) = n then 132 else 0 := by
  have hi := downAt_inv n h0 k (by omega)
  have hhas : (downAt n k).has ((k : Int) % 7) = true := by rw [has7 hi.kept]; simp; omega
  have hl := hi.live hk
  by_cases hz : (k : Int) = n
  · have hst : (downAt n k).stops = true := by simp [Dev.stops, hl.2, hz]
    rw [if_pos hz]
    simp [Dev.write, hhas, hst]
  · have hst : (downAt n k).stops = false := by simp [Dev.stops, hl.1, hl.2]; omega
    simp [Dev.write, hhas, hst, hz]
end Go.Proofs.Ytjnpkcabkccaoaa
