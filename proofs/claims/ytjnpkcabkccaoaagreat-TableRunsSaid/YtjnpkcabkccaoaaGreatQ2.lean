/- Lemmas and walks for TableRuns, packed. -/
import Derived.Test.YtjnpkcabkccaoaaGreatQ1
import Derived.Test.YtjnpkcabkccaoaaGreatProg
set_option maxRecDepth 100000
set_option maxHeartbeats 16000000
namespace Go.Proofs.YtjnpkcabkccaoaaGreat
open Go.RowKit
abbrev Slb := List Int
def enc (s : Slb) : List Value := s.map (Value.int .u8 ·)
structure Dev where
 kept : List Slb
 seen : List Slb
 written : List (Nat × Slb)
 budget : Int
 down : Bool
def rows (l : List Slb) : List Value := l.flatMap enc
def wcells (l : List (Nat × Slb)) : List Value := l.flatMap fun p => Value.int .i64 (p.1 : Int) :: enc p.2
structure Dev.Good (d : Dev) : Prop where
 seen : d.seen.length = d.kept.length
 few : d.kept.length ≤ 4096
 k128 : ∀ s ∈ d.kept, s.length = 128
 s128 : ∀ s ∈ d.seen, s.length = 128
 wat : ∀ p ∈ d.written, p.1 < d.kept.length ∧ p.2.length = 128
 lo : -1 ≤ d.budget
 hi : d.budget ≤ 9223372036854775807

def DevIn (w : World) (b k s : Nat) (wv : Value) (d : Dev) : Prop :=
 Blk w b 72 [.slice (some ⟨k, 0, none⟩) d.kept.length d.kept.length, .slice (some ⟨s, 0, none⟩) d.kept.length d.kept.length, wv, .int .i64 d.budget, .bool d.down] ∧
 Blk w k 94 (rows d.kept) ∧ Blk w s 94 (rows d.seen) ∧
 w.ownsRow 0 96 129 wv d.written.length (wcells d.written) ∧ k ≠ s
def DevRep (w : World) (b : Nat) (F : Nat → Prop) (d : Dev) : Prop :=
 ∃ k s wv, DevIn w b k s wv d ∧ d.Good ∧ F = (fun i => i = b ∨ i = k ∨ i = s ∨ wv.ownBlock = some i)

section
variable {w w' : World} {b k s : Nat} {wv : Value} {d : Dev} {F : Nat → Prop}
theorem DevIn.lt (h : DevIn w b k s wv d) : ∀ i, (i = b ∨ i = k ∨ i = s ∨ wv.ownBlock = some i) → i < w.heap.size := by
 rintro i (rfl | rfl | rfl | hi)
 ·exact h.1.lt
 ·exact h.2.1.lt
 ·exact h.2.2.1.lt
 ·exact (h.2.2.2.1.lt i hi).2
theorem DevRep.lt (h : DevRep w b F d) : ∀ i, F i → i < w.heap.size := by
 obtain ⟨k, s, wv, hi, _, rfl⟩ := h
 exact hi.lt
theorem DevIn.keep (h : DevIn w b k s wv d) {G : Nat → Prop} (ho : Only G w w') (hg : ∀ i, (i = b ∨ i = k ∨ i = s ∨ wv.ownBlock = some i) → ¬ G i) : DevIn w' b k s wv d :=
 ⟨ho.blk h.1 (hg _ (.inl rfl)), ho.blk h.2.1 (hg _ (.inr (.inl rfl))), ho.blk h.2.2.1 (hg _ (.inr (.inr (.inl rfl)))), ho.own h.2.2.2.1 (fun g e => hg g (.inr (.inr (.inr e)))), h.2.2.2.2⟩
theorem DevRep.keep (h : DevRep w b F d) {G : Nat → Prop} (ho : Only G w w') (hg : ∀ i, F i → ¬ G i) : DevRep w' b F d := by
 obtain ⟨k, s, wv, hi, hG, rfl⟩ := h
 exact ⟨k, s, wv, hi.keep ho hg, hG, rfl⟩
theorem DevRep.alloc (h : DevRep w b F d) (o : Obj) : DevRep (w.alloc o) b F d := h.keep (G := fun _ => False) ((Only.refl _ _).alloc o) (fun _ _ h => h)
theorem DevRep.good (h : DevRep w b F d) : d.Good := by obtain ⟨_, _, _, _, hG, _⟩ := h; exact hG
theorem DevIn.ne (h : DevIn w b k s wv d) : k ≠ s ∧ b ≠ k ∧ b ≠ s ∧ wv.ownBlock ≠ some b ∧ wv.ownBlock ≠ some k ∧ wv.ownBlock ≠ some s := by
 obtain ⟨h1, h2, h3, h4, h5⟩ := h
 have two : ∀ {g : Nat} {t t' : TypeId} {c c' : List Value}, Blk w g t c → Blk w g t' c' → t = t' := fun p q => by
  have := Option.some.inj (p.symm.trans q); injection this
 have own : ∀ {g : Nat} {t : TypeId} {c : List Value}, Blk w g t c → wv.ownBlock = some g → t = 96 := fun {g t c} p e => by
  rcases h4.2 with ⟨rfl, _⟩ | ⟨g', cap, cur, rfl, _, hh, _⟩
  ·simp [Value.ownBlock] at e
  ·have : g' = g := by simpa [Value.ownBlock] using e
   subst this
   have := Option.some.inj (p.symm.trans hh); injection this
 refine ⟨h5, ?_, ?_, ?_, ?_, ?_⟩
 ·rintro rfl; exact absurd (two h1 h2) (by decide)
 ·rintro rfl; exact absurd (two h1 h3) (by decide)
 ·intro e; exact absurd (own h1 e) (by decide)
 ·intro e; exact absurd (own h2 e) (by decide)
 ·intro e; exact absurd (own h3 e) (by decide)
end

def DevPost (w : World) (b : Nat) (F : Nat → Prop) (d' : Dev) (r : Value) (e : Ending) (w' : World) : Prop :=
 e = .returned r ∧ ∃ F', DevRep w' b F' d' ∧ Only F w w' ∧ ∀ i, F' i → F i ∨ w.heap.size ≤ i

def Dev.has (d : Dev) (at_ : Int) : Bool := decide (0 ≤ at_) && decide (at_ < (d.kept.length : Int))
def Dev.stops (d : Dev) : Bool := d.down || d.budget == 0
def Dev.after (d : Dev) : Dev := { d with down := d.stops, budget := if !d.stops && decide (0 < d.budget) then d.budget - 1 else d.budget }

theorem has_any (w : World) (b : Nat) (F : Nat → Prop) (d : Dev) (at_ : Int) (h : DevRep w b F d) :
  Calls Tryz.prog 115 #[.pointer (some ⟨b, 0, none⟩), .int .i64 at_] w fun e w' => e = .returned (.bool (d.has at_)) ∧ w = w' := by
 obtain ⟨k, s, wv, hi, hG, rfl⟩ := h
 have hc : w.cell? ⟨b, 1, none⟩ = some (.slice (some ⟨s, 0, none⟩) d.kept.length d.kept.length) := by rw [hi.1.cell]; rfl
 have hF : d.has at_ = (decide (0 ≤ at_) && decide (at_ < (d.kept.length : Int))) := rfl
 rw [hF]
 clear hi hG hF
 go_enter Tryz.func115, Tryz.ntmps115
 go_wp2
 all_goals (go_ret; simp_all)
 all_goals omega

def MayPost (w : World) (b : Nat) (d : Dev) (e : Ending) (w' : World) : Prop :=
 e = .returned (.bool (!d.stops)) ∧ w' = (w.setCell ⟨b, 4, none⟩ (.bool d.after.down)).setCell ⟨b, 3, none⟩ (.int .i64 d.after.budget)
theorem setCell_same (w : World) (b i : Nat) (t : TypeId) (cs : List Value) (v : Value) (h : Blk w b t cs) (hv : cs[i]? = some v) : w.setCell ⟨b, i, none⟩ v = w := by
 have hl : i < cs.length := (List.getElem?_eq_some_iff.1 hv).1
 have hs : cs.set i v = cs := by
  rw [List.getElem?_eq_getElem hl] at hv
  injection hv with hv
  subst hv
  simp
 have e : (w.setCell ⟨b, i, none⟩ v).heap = w.heap := by
  refine Array.ext_getElem? fun j => ?_
  by_cases hj : j = b
  ·subst hj
   have h1 := h.set_ i v
   rw [hs] at h1
   exact h1.trans h.symm
  ·exact Below.heap_setCell _ _ _ _ hj
 have : w.setCell ⟨b, i, none⟩ v = { w with heap := (w.setCell ⟨b, i, none⟩ v).heap } := rfl
 rw [this, e]
theorem may_cells (w : World) (b : Nat) (d : Dev) (t : TypeId) (x0 x1 x2 : Value) (hb : Blk w b t [x0, x1, x2, .int .i64 d.budget, .bool d.down]) (h0 : -1 ≤ d.budget) (hm : d.budget ≤ 9223372036854775807) :
  Calls Tryz.prog 88 #[.pointer (some ⟨b, 0, none⟩)] w (MayPost w b d) := by
 have h3 : w.cell? ⟨b, 3, none⟩ = some (.int .i64 d.budget) := by rw [hb.cell]; rfl
 have h4 : w.cell? ⟨b, 4, none⟩ = some (.bool d.down) := by rw [hb.cell]; rfl
 have f3 := hb.frozen 3
 have f4 := hb.frozen 4
 obtain ⟨kp, sn, wr, bd, dn⟩ := d
 simp only at h3 h4 hb h0 hm
 have hB := hide hb
 clear hb
 by_cases hd : dn = true
 ·subst hd
  have hp : ∀ e w', MayPost w b ⟨kp, sn, wr, bd, true⟩ e w' ↔ (e = .returned (.bool false) ∧ w' = w.setCell ⟨b, 4, none⟩ (.bool true)) := fun e w' => by
   have : (w.setCell ⟨b, 4, none⟩ (.bool true)).setCell ⟨b, 3, none⟩ (.int .i64 bd) = w.setCell ⟨b, 4, none⟩ (.bool true) := setCell_same _ b 3 t _ _ (hB.out.set_ 4 _) rfl
   simp [MayPost, Dev.stops, Dev.after, this]
  have : Calls Tryz.prog 88 #[.pointer (some ⟨b, 0, none⟩)] w (fun e w' => e = .returned (.bool false) ∧ w' = w.setCell ⟨b, 4, none⟩ (.bool true)) := by
   go_enter Tryz.func88, Tryz.ntmps88
   go_wp2
   all_goals (go_ret; exact ⟨rfl, rfl⟩)
  exact this.mono fun e w' h => (hp e w').2 h
 ·have hd' : dn = false := by simpa using hd
  subst hd'
  by_cases hz : bd = 0
  ·subst hz
   have hp : ∀ e w', MayPost w b ⟨kp, sn, wr, 0, false⟩ e w' ↔ (e = .returned (.bool false) ∧ w' = w.setCell ⟨b, 4, none⟩ (.bool true)) := fun e w' => by
    have : (w.setCell ⟨b, 4, none⟩ (.bool true)).setCell ⟨b, 3, none⟩ (.int .i64 0) = w.setCell ⟨b, 4, none⟩ (.bool true) := setCell_same _ b 3 t _ _ (hB.out.set_ 4 _) rfl
    simp [MayPost, Dev.stops, Dev.after, this]
   have : Calls Tryz.prog 88 #[.pointer (some ⟨b, 0, none⟩)] w (fun e w' => e = .returned (.bool false) ∧ w' = w.setCell ⟨b, 4, none⟩ (.bool true)) := by
    go_enter Tryz.func88, Tryz.ntmps88
    go_wp2
    all_goals (go_ret; exact ⟨rfl, rfl⟩)
   exact this.mono fun e w' h => (hp e w').2 h
  ·have hz' : (bd == 0) = false := by simpa using hz
   by_cases hpos : 0 < bd
   ·have hp : ∀ e w', MayPost w b ⟨kp, sn, wr, bd, false⟩ e w' ↔ (e = .returned (.bool true) ∧ w' = (w.setCell ⟨b, 4, none⟩ (.bool false)).setCell ⟨b, 3, none⟩ (.int .i64 (bd - 1))) := fun e w' => by
     simp [MayPost, Dev.stops, Dev.after, hz', hpos]
    have : Calls Tryz.prog 88 #[.pointer (some ⟨b, 0, none⟩)] w (fun e w' => e = .returned (.bool true) ∧ w' = (w.setCell ⟨b, 4, none⟩ (.bool false)).setCell ⟨b, 3, none⟩ (.int .i64 (bd - 1))) := by
     clear hp
     go_enter Tryz.func88, Tryz.ntmps88
     go_wp2
     all_goals (go_ret; exact ⟨rfl, rfl⟩)
    exact this.mono fun e w' h => (hp e w').2 h
   ·have hp : ∀ e w', MayPost w b ⟨kp, sn, wr, bd, false⟩ e w' ↔ (e = .returned (.bool true) ∧ w' = w.setCell ⟨b, 4, none⟩ (.bool false)) := fun e w' => by
     have : (w.setCell ⟨b, 4, none⟩ (.bool false)).setCell ⟨b, 3, none⟩ (.int .i64 bd) = w.setCell ⟨b, 4, none⟩ (.bool false) := setCell_same _ b 3 t _ _ (hB.out.set_ 4 _) rfl
     simp [MayPost, Dev.stops, Dev.after, hz', hpos, this]
    have : Calls Tryz.prog 88 #[.pointer (some ⟨b, 0, none⟩)] w (fun e w' => e = .returned (.bool true) ∧ w' = w.setCell ⟨b, 4, none⟩ (.bool false)) := by
     clear hp
     go_enter Tryz.func88, Tryz.ntmps88
     go_wp2
     all_goals (go_ret; exact ⟨rfl, rfl⟩)
    exact this.mono fun e w' h => (hp e w').2 h

theorem Dev.Good.after {d : Dev} (h : d.Good) : d.after.Good := by
 have := h.lo; have := h.hi
 refine ⟨h.seen, h.few, h.k128, h.s128, h.wat, ?_, ?_⟩
 ·simp only [Dev.after]; split
  ·rename_i hh; simp only [Bool.and_eq_true, decide_eq_true_eq] at hh; omega
  ·omega
 ·simp only [Dev.after]; split <;> omega
theorem may_any (w : World) (b : Nat) (F : Nat → Prop) (d : Dev) (h : DevRep w b F d) :
  Calls Tryz.prog 88 #[.pointer (some ⟨b, 0, none⟩)] w fun e w' => e = .returned (.bool (!d.stops)) ∧ DevRep w' b F d.after ∧ Only F w w' := by
 obtain ⟨k, s, wv, hi, hG, rfl⟩ := h
 refine (may_cells w b d _ _ _ _ hi.1 hG.lo hG.hi).mono ?_
 rintro e w' ⟨rfl, rfl⟩
 have hn := hi.ne
 refine ⟨rfl, ⟨k, s, wv, ?_, hG.after, rfl⟩, (((Only.refl _ _).setCell (p := ⟨b, 4, none⟩) (.inr (.inl rfl)) _).setCell (p := ⟨b, 3, none⟩) (.inr (.inl rfl)) _)⟩
 refine ⟨(hi.1.set_ 4 _).set_ 3 _, (hi.2.1.far (p := ⟨b, 4, none⟩) (Ne.symm hn.2.1) _).far (p := ⟨b, 3, none⟩) (Ne.symm hn.2.1) _, (hi.2.2.1.far (p := ⟨b, 4, none⟩) (Ne.symm hn.2.2.1) _).far (p := ⟨b, 3, none⟩) (Ne.symm hn.2.2.1) _, ?_, hi.2.2.2.2⟩
 have ho : Only (fun i => i = b) w ((w.setCell ⟨b, 4, none⟩ (.bool d.after.down)).setCell ⟨b, 3, none⟩ (.int .i64 d.after.budget)) := ((Only.refl (fun i => i = b) w).setCell (p := ⟨b, 4, none⟩) (.inr rfl) _).setCell (p := ⟨b, 3, none⟩) (.inr rfl) _
 exact ho.own hi.2.2.2.1 (fun g e hg => hn.2.2.2.1 (hg ▸ e))
abbrev W32 := BitVec 32
structure St where
 a : W32
 b : W32
 c : W32
 d : W32
 e : W32
 f : W32
 g : W32
 h : W32
namespace Sha
def low0 (x : W32) : W32 := x.rotateRight 7 ^^^ x.rotateRight 18 ^^^ (x >>> 3)
def low1 (x : W32) : W32 := x.rotateRight 17 ^^^ x.rotateRight 19 ^^^ (x >>> 10)
def big0 (x : W32) : W32 := x.rotateRight 2 ^^^ x.rotateRight 13 ^^^ x.rotateRight 22
def big1 (x : W32) : W32 := x.rotateRight 6 ^^^ x.rotateRight 11 ^^^ x.rotateRight 25
def pick (x y z : W32) : W32 := (x &&& y) ^^^ (~~~x &&& z)
def most (x y z : W32) : W32 := (x &&& y) ^^^ (x &&& z) ^^^ (y &&& z)
def keys : List W32 := [
 0x428a2f98, 0x71374491, 0xb5c0fbcf, 0xe9b5dba5, 0x3956c25b, 0x59f111f1, 0x923f82a4, 0xab1c5ed5,
 0xd807aa98, 0x12835b01, 0x243185be, 0x550c7dc3, 0x72be5d74, 0x80deb1fe, 0x9bdc06a7, 0xc19bf174,
 0xe49b69c1, 0xefbe4786, 0x0fc19dc6, 0x240ca1cc, 0x2de92c6f, 0x4a7484aa, 0x5cb0a9dc, 0x76f988da,
 0x983e5152, 0xa831c66d, 0xb00327c8, 0xbf597fc7, 0xc6e00bf3, 0xd5a79147, 0x06ca6351, 0x14292967,
 0x27b70a85, 0x2e1b2138, 0x4d2c6dfc, 0x53380d13, 0x650a7354, 0x766a0abb, 0x81c2c92e, 0x92722c85,
 0xa2bfe8a1, 0xa81a664b, 0xc24b8b70, 0xc76c51a3, 0xd192e819, 0xd6990624, 0xf40e3585, 0x106aa070,
 0x19a4c116, 0x1e376c08, 0x2748774c, 0x34b0bcb5, 0x391c0cb3, 0x4ed8aa4a, 0x5b9cca4f, 0x682e6ff3,
 0x748f82ee, 0x78a5636f, 0x84c87814, 0x8cc70208, 0x90befffa, 0xa4506ceb, 0xbef9a3f7, 0xc67178f2]
def first : St := ⟨0x6a09e667, 0xbb67ae85, 0x3c6ef372, 0xa54ff53a, 0x510e527f, 0x9b05688c, 0x1f83d9ab, 0x5be0cd19⟩
def word (b : List Int) (i : Nat) : W32 := BitVec.ofNat 32 ((((b.getD (4 * i) 0).toNat * 256 + (b.getD (4 * i + 1) 0).toNat) * 256 + (b.getD (4 * i + 2) 0).toNat) * 256 + (b.getD (4 * i + 3) 0).toNat)
def words (b : List Int) (n : Nat) : List W32 := (List.range n).map (word b)
def next (l : List W32) : W32 := l.getD (l.length - 16) 0 + l.getD (l.length - 7) 0 + low0 (l.getD (l.length - 15) 0) + low1 (l.getD (l.length - 2) 0)
def grow : Nat → List W32 → List W32
 | 0, l => l
 | n + 1, l => grow n (l ++ [next l])
def spread (b : List Int) : List W32 := grow 48 (words b 16)
def round (x : St) (k w : W32) : St :=
 let t := x.h + big1 x.e + pick x.e x.f x.g + k + w
 let u := big0 x.a + most x.a x.b x.c
 ⟨t + u, x.a, x.b, x.c, x.d + t, x.e, x.f, x.g⟩
def rounds (ws : List W32) : Nat → St → St
 | 0, x => x
 | n + 1, x => round (rounds ws n x) (keys.getD n 0) (ws.getD n 0)
def add (s x : St) : St := ⟨s.a + x.a, s.b + x.b, s.c + x.c, s.d + x.d, s.e + x.e, s.f + x.f, s.g + x.g, s.h + x.h⟩
def mix (s : St) (b : List Int) : St := add s (rounds (spread b) 64 s)
def pieces : Nat → St → List Int → St
 | 0, s, _ => s
 | n + 1, s, b => pieces n (mix s (b.take 64)) (b.drop 64)
def zeros (n : Nat) : Nat := (119 - n % 64) % 64
def eight (n : Nat) : List Int := (List.range 8).map fun i => ((n / 256 ^ (7 - i) % 256 : Nat) : Int)
def tail (n : Nat) : List Int := 128 :: (List.replicate (zeros n) 0 ++ eight (8 * n % 18446744073709551616))
def padded (b : List Int) : List Int := b ++ tail b.length
def four (x : W32) : List Int := [((x.toNat / 16777216 % 256 : Nat) : Int), ((x.toNat / 65536 % 256 : Nat) : Int), ((x.toNat / 256 % 256 : Nat) : Int), ((x.toNat % 256 : Nat) : Int)]
end Sha
def St.list (s : St) : List W32 := [s.a, s.b, s.c, s.d, s.e, s.f, s.g, s.h]
def St.bytes (s : St) : List Int := s.list.flatMap Sha.four
def sha (b : List Int) : List Int := (Sha.pieces ((Sha.padded b).length / 64) Sha.first (Sha.padded b)).bytes
namespace Sha
theorem four_byt (x : W32) : Byt (four x) := by
 intro v hv
 simp only [four, List.mem_cons, List.mem_nil_iff, or_false] at hv
 omega
theorem four_len (x : W32) : (four x).length = 4 := rfl
end Sha
theorem St.bytes_len (s : St) : s.bytes.length = 32 := by simp [St.bytes, St.list, Sha.four_len]
theorem St.bytes_byt (s : St) : Byt s.bytes := by
 intro v hv
 simp only [St.bytes, List.mem_flatMap] at hv
 obtain ⟨x, _, h⟩ := hv
 exact Sha.four_byt x v h
theorem sha_len (b : List Int) : (sha b).length = 32 := St.bytes_len _
theorem sha_byt (b : List Int) : Byt (sha b) := St.bytes_byt _
namespace Sha
theorem words_len (b : List Int) (n : Nat) : (words b n).length = n := by simp [words]
theorem grow_len : ∀ (n : Nat) (l : List W32), (grow n l).length = l.length + n
 | 0, l => rfl
 | n + 1, l => by rw [grow, grow_len n]; simp; omega
theorem spread_len (b : List Int) : (spread b).length = 64 := by rw [spread, grow_len, words_len]
theorem grow_succ : ∀ (n : Nat) (l : List W32), grow (n + 1) l = grow n l ++ [next (grow n l)]
 | 0, l => rfl
 | n + 1, l => by
  have h := grow_succ n (l ++ [next l])
  rw [grow, h]
  rfl
theorem eight_len (n : Nat) : (eight n).length = 8 := by simp [eight]
theorem zeros_lt (n : Nat) : zeros n < 64 := Nat.mod_lt _ (by decide)
theorem padded_len (b : List Int) : (padded b).length = b.length + 9 + zeros b.length := by simp [padded, tail, eight_len]; omega
theorem padded_whole (b : List Int) : (padded b).length % 64 = 0 := by rw [padded_len]; unfold zeros; omega
theorem pieces_add : ∀ (n m : Nat) (s : St) (b : List Int), pieces (n + m) s b = pieces m (pieces n s b) (b.drop (64 * n))
 | 0, m, s, b => by simp [pieces]
 | n + 1, m, s, b => by
  have h := pieces_add n m (mix s (b.take 64)) (b.drop 64)
  have e : n + 1 + m = (n + m) + 1 := by omega
  rw [e, pieces, h, pieces, List.drop_drop]
  congr 2
  omega
theorem pieces_front : ∀ (n : Nat) (s : St) (b c : List Int), 64 * n ≤ b.length → pieces n s (b ++ c) = pieces n s b
 | 0, _, _, _, _ => rfl
 | n + 1, s, b, c, h => by
  rw [pieces, pieces, List.take_append_of_le_length (by omega), List.drop_append_of_le_length (by omega)]
  exact pieces_front n _ _ c (by rw [List.length_drop]; omega)
end Sha
def MineR (e : TypeId) (k : Nat) (w0 w : World) (v : Value) (n : Nat) (cs : List Value) : Prop :=
 Below w0.heap.size w0 w ∧ w.ownsRow w0.heap.size e k v n cs
section
variable {w0 w w' : World} {e : TypeId} {k n : Nat} {v : Value} {cs : List Value}
theorem MineR.below (h : MineR e k w0 w v n cs) : Below w0.heap.size w0 w := h.1
theorem MineR.len (h : MineR e k w0 w v n cs) : cs.length = n * k := h.2.1
theorem MineR.keep (h : MineR e k w0 w v n cs) (hb : Below w.heap.size w w') : MineR e k w0 w' v n cs :=
 ⟨h.1.trans (hb.mono h.1.size), (Only.of_below hb (fun _ => False)).own h.2 (fun _ _ hf => hf)⟩
theorem MineR.alloc (h : MineR e k w0 w v n cs) (o : Obj) : MineR e k w0 (w.alloc o) v n cs := h.keep ((Below.refl _ w).alloc (Nat.le_refl _) o)
theorem MineR.drew (h : MineR e k w0 w v n cs) : MineR e k w0 w.drew v n cs := ⟨h.1.drew, h.2⟩
theorem MineR.rows (h : MineR e k w0 w v n cs) (_hk : 0 < k) : ∃ A c, v = .slice A n c ∧ n ≤ c ∧ (∀ ad, A = some ad → w0.heap.size ≤ ad.block) ∧ (0 < n → ∃ g : Nat, A = some ⟨g, 0, none⟩ ∧ g < w.heap.size ∧ w.rangeAt g 0 cs) := by
 rcases h.2.2 with ⟨rfl, h0⟩ | ⟨g, cap, cur, rfl, hb, hh, hnc, hcm, _, htake⟩
 ·exact ⟨none, 0, by rw [h0], by omega, (fun _ e => by cases e), fun hn => absurd hn (by omega)⟩
 ·refine ⟨_, cap, rfl, hnc, fun ad e => by injection e with e; rw [← e]; exact hb, fun _ => ⟨g, rfl, (Array.getElem?_eq_some_iff.1 hh).1, fun j u hu => ?_⟩⟩
  have hc : Blk w g e cur.toList := by simpa [Blk] using hh
  rw [Nat.zero_add, hc.cell]
  rw [← htake, List.getElem?_take] at hu
  split at hu
  ·exact hu
  ·cases hu
theorem MineR.block (h : MineR e k w0 w v n cs) : ∀ g, v.ownBlock = some g → w0.heap.size ≤ g ∧ g < w.heap.size := h.2.lt
end
section
variable {P : Program}
theorem wpList_mineR {w : World} {ops : Array Oper} {rest : List Oper} {o : Oper} {a : Act} {Q : Exit → Act → World → Prop} (hgd : o.guard = none) (s x : Operand) (t : TypeId)
  (ho : o.op = .call { callee := .builtin .append, args := #[s, x], argTypes := #[t, t] })
  (e : TypeId) (k by_ : Nat) (ht : P.underlying t = some (.slice e)) (hi : (P.info? e).map (fun i => (i.size, i.bytes, i.zero.map (fun z => z.cells.size))) = some (k, by_, some k)) (hk : 0 < k)
  (w0 : World) (v : Value) (n : Nat) (cs : List Value) (hs : a.eval s = v) (h : MineR e k w0 w v n cs)
  (b off m c : Nat) (news : List Value) (hx : a.eval x = .slice (some ⟨b, off, none⟩) m c) (hl : news.length = m * k) (hnews : w.rangeAt b off news) (h1 : ∀ u ∈ news, u.oneCell' = true)
  (hbytes : (n + m) * by_ ≤ 140737488355328) (hby : 0 < by_)
  (hK : ∀ A' c' w', MineR e k w0 w' (.slice A' (n + m) c') (n + m) (cs ++ news) → (∀ g, (Value.slice A' (n + m) c').ownBlock = some g → v.ownBlock = some g ∨ w.heap.size ≤ g) → Only (fun i => v.ownBlock = some i) w w' → wpList P ops Q rest (a.put o.dst (.slice A' (n + m) c')) w') : wpList P ops Q (o :: rest) a w := by
 obtain ⟨i, z, hi1, hz, hsz, hbb, hzs⟩ : ∃ i z, P.info? e = some i ∧ i.zero = some z ∧ i.size = k ∧ i.bytes = by_ ∧ z.cells.size = k := by
  cases hq : P.info? e with
  | none => simp [hq] at hi
  | some i =>
   cases hz : i.zero with
   | none => simp [hq, hz] at hi
   | some z =>
    simp [hq, hz] at hi
    exact ⟨i, z, rfl, hz, hi.1, hi.2.1, hi.2.2⟩
 have hn : n + m ≤ 140737488355328 := Nat.le_trans (Nat.le_mul_of_pos_right _ hby) hbytes
 refine wpList_plain hgd fun _ hK' => ?_
 obtain ⟨v', w', hrun, o1, g1, _, hat⟩ := run_append_own_at (P := P) w w0.heap.size t o.type e i z k by_ ht hi1 hz hsz hbb hzs hk v n cs h.2 ⟨b, off, none⟩ m c news hl (fun j u hu => by rw [Addr.add_mid]; exact hnews j u hu) h1 (by simp only [maxLen]; omega) hbytes h.1.size
 have hm : MineR e k w0 w' v' (n + m) (cs ++ news) := ⟨h.1.grown g1 h.1.size (fun g hg => (h.2.lt g hg).1), o1⟩
 obtain ⟨A', c', rfl, _⟩ := hm.rows hk
 unfold Oper.wp execOp
 simp only [ho, resolve, invoke, builtin, Sem.run_bind, Sem.run_pure, Result.andThen_ok, List.map_toArray, List.map_cons, List.map_nil, hs, hx, hrun]
 refine hK' _ _ (hK A' c' w' hm (fun g hg => ?_) ((Only.refl _ w).grown g1 (fun g hg => .inr hg)))
 rcases hat with h1 | h1
 ·left; rw [← h1]; exact hg
 ·right; rw [h1] at hg; injection hg with hg; omega
end
def RowsIn {α : Type} (cells : α → List Value) (k : Nat) (fine : World → α → Prop) (w : World) (A : Option Addr) (n : Nat) (xs : List α) : Prop :=
 xs.length = n ∧ (∀ a ∈ xs, fine w a) ∧ (0 < n → ∃ b off : Nat, A = some ⟨b, off, none⟩ ∧ ∀ (i : Nat) (a : α), xs[i]? = some a → w.rangeAt b (off + i * k) (cells a))
theorem range_under {w w' : World} {b o : Nat} {cs : List Value} (h : w.rangeAt b o cs) (hb : Below w.heap.size w w') : w'.rangeAt b o cs := fun j v hv => cell_under hb (h j v hv)
theorem range_only {w w' : World} {b o : Nat} {cs : List Value} {F : Nat → Prop} (h : w.rangeAt b o cs) (ho : Only F w w') (hF : ¬ F b) : w'.rangeAt b o cs := fun j v hv => by
 have h1 := h j v hv
 exact (World.cell?_of_block (w := w) (ho.block b (World.block_lt_of_cell? w _ h1) hF)).trans h1
theorem RowsIn.below {α : Type} {cells : α → List Value} {k : Nat} {fine : World → α → Prop} {w w' : World} {A : Option Addr} {n : Nat} {xs : List α} (h : RowsIn cells k fine w A n xs) (hb : Below w.heap.size w w')
  (hf : ∀ a, fine w a → fine w' a) : RowsIn cells k fine w' A n xs := by
 refine ⟨h.1, fun a ha => hf a (h.2.1 a ha), fun hn => ?_⟩
 obtain ⟨b, off, hA, hr⟩ := h.2.2 hn
 exact ⟨b, off, hA, fun i a ha => range_under (hr i a ha) hb⟩
theorem RowsIn.nil {α : Type} (cells : α → List Value) (k : Nat) (fine : World → α → Prop) (w : World) (A : Option Addr) : RowsIn cells k fine w A 0 [] := ⟨rfl, by simp, fun h => absurd h (by omega)⟩
end Go.Proofs.YtjnpkcabkccaoaaGreat
