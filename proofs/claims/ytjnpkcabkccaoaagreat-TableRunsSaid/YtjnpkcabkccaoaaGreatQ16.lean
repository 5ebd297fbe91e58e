/- Lemmas and walks for TableRuns, packed. -/
import Derived.Test.YtjnpkcabkccaoaaGreatQ13
import Derived.RangeFuncNested
import Derived.RangeFuncBox
import Derived.RangeFuncLeaves
import Derived.Shelf.Abstract
import Derived.OwnWalkIn
import Derived.TacticsInMore
import Derived.LoopNIn
import Derived.LoopIn
import Derived.OrdersIn
import Derived.Deep.RegionHeldLaw
set_option maxRecDepth 100000
set_option maxHeartbeats 16000000
namespace Go.Proofs.YtjnpkcabkccaoaaGreat
open Go.RowKit
theorem baEq_iff (a b : List Int) (ha : Byt a) (hb : Byt b) : ba a = ba b ↔ a = b := ⟨ba_inj a b ha hb, fun h => by rw [h]⟩
theorem baBeq (a b : List Int) (ha : Byt a) (hb : Byt b) : ((ba a).toList == (ba b).toList) = decide (a = b) := by
 have e : ((ba a).toList = (ba b).toList) ↔ a = b := by
  rw [← baEq_iff a b ha hb, ByteArray.toList_eq, ByteArray.toList_eq]
  constructor
  ·intro h
   have : (ba a).data = (ba b).data := Array.ext' h
   cases h1 : ba a with | mk x => cases h2 : ba b with | mk y => rw [h1, h2] at this; simp at this; rw [this]
  ·intro h; rw [h]
 rw [Bool.eq_iff_iff]
 simp [e]
theorem BytesEqual_any (w : World) (A B : Option Addr) (n c m d : Nat) (xs ys : List Int) (hA : Bys w A n xs) (hB : Bys w B m ys) :
  Calls Tryz.prog 75 #[.slice A n c, .slice B m d] w fun e w' => e = .returned (.bool (decide (xs = ys))) ∧ w = w' := by
 have s1 := run_str w A n c _ hA
 have s2 := run_str w B m d _ hB
 have E : Hid (((ba xs).toList == (ba ys).toList) = decide (xs = ys)) := hide (baBeq xs ys hA.2.1 hB.2.1)
 clear hA hB
 generalize ba xs = S at s1 E
 generalize ba ys = T at s2 E
 go_enter Tryz.func75, Tryz.ntmps75
 go_wp2
 go_ret
 exact ⟨by rw [← E.out]; rfl, rfl⟩
def DocIn (w : World) (b k : Nat) (wv : Value) (m : Int) (d : Dev) : Prop :=
 Blk w b 75 [.slice (some ⟨k, 0, none⟩) d.kept.length d.kept.length, wv, .int .i64 m, .bool (decide (0 ≤ d.budget)), .bool d.down] ∧
 Blk w k 94 (rows d.kept) ∧
 w.ownsRow 0 98 129 wv d.written.length (wcells d.written) ∧ (0 ≤ d.budget → m = d.budget)
def DocRep (w : World) (b : Nat) (F : Nat → Prop) (d : Dev) : Prop :=
 ∃ k wv m, DocIn w b k wv m d ∧ d.Good ∧ F = (fun i => i = b ∨ i = k ∨ wv.ownBlock = some i)
section
variable {w w' : World} {b k : Nat} {wv : Value} {d : Dev} {m : Int} {F : Nat → Prop}
theorem DocIn.lt (h : DocIn w b k wv m d) : ∀ i, (i = b ∨ i = k ∨ wv.ownBlock = some i) → i < w.heap.size := by
 rintro i (rfl | rfl | hi)
 ·exact h.1.lt
 ·exact h.2.1.lt
 ·exact (h.2.2.1.lt i hi).2
theorem DocRep.lt (h : DocRep w b F d) : ∀ i, F i → i < w.heap.size := by
 obtain ⟨k, wv, m, hi, _, rfl⟩ := h
 exact hi.lt
theorem DocIn.keep (h : DocIn w b k wv m d) {G : Nat → Prop} (ho : Only G w w') (hg : ∀ i, (i = b ∨ i = k ∨ wv.ownBlock = some i) → ¬ G i) : DocIn w' b k wv m d :=
 ⟨ho.blk h.1 (hg _ (.inl rfl)), ho.blk h.2.1 (hg _ (.inr (.inl rfl))), ho.own h.2.2.1 (fun g e => hg g (.inr (.inr e))), h.2.2.2⟩
theorem DocRep.keep (h : DocRep w b F d) {G : Nat → Prop} (ho : Only G w w') (hg : ∀ i, F i → ¬ G i) : DocRep w' b F d := by
 obtain ⟨k, wv, m, hi, hG, rfl⟩ := h
 exact ⟨k, wv, m, hi.keep ho hg, hG, rfl⟩
theorem DocRep.alloc (h : DocRep w b F d) (o : Obj) : DocRep (w.alloc o) b F d := h.keep (G := fun _ => False) ((Only.refl _ _).alloc o) (fun _ _ h => h)
theorem DocRep.good (h : DocRep w b F d) : d.Good := by obtain ⟨_, _, _, _, hG, _⟩ := h; exact hG
theorem DocIn.ne (h : DocIn w b k wv m d) : b ≠ k ∧ wv.ownBlock ≠ some b ∧ wv.ownBlock ≠ some k := by
 obtain ⟨h1, h2, h4, h5⟩ := h
 have two : ∀ {g : Nat} {t t' : TypeId} {c c' : List Value}, Blk w g t c → Blk w g t' c' → t = t' := fun p q => by
  have := Option.some.inj (p.symm.trans q); injection this
 have own : ∀ {g : Nat} {t : TypeId} {c : List Value}, Blk w g t c → wv.ownBlock = some g → t = 98 := fun {g t c} p e => by
  rcases h4.2 with ⟨rfl, _⟩ | ⟨g', cap, cur, rfl, _, hh, _⟩
  ·simp [Value.ownBlock] at e
  ·have : g' = g := by simpa [Value.ownBlock] using e
   subst this
   have := Option.some.inj (p.symm.trans hh); injection this
 refine ⟨?_, ?_, ?_⟩
 ·rintro rfl; exact absurd (two h1 h2) (by decide)
 ·intro e; exact absurd (own h1 e) (by decide)
 ·intro e; exact absurd (own h2 e) (by decide)
end
def DocPost (w : World) (b : Nat) (F : Nat → Prop) (d' : Dev) (r : Value) (e : Ending) (w' : World) : Prop :=
 e = .returned r ∧ ∃ F', DocRep w' b F' d' ∧ Only F w w' ∧ ∀ i, F' i → F i ∨ w.heap.size ≤ i

def SpendPost (w : World) (b : Nat) (d : Dev) (e : Ending) (w' : World) : Prop :=
 e = .returned (.bool (!d.stops)) ∧ ((d.budget < 0 ∨ d.down = true ∧ 0 < d.budget) ∧ w' = w ∨ d.budget = 0 ∧ w' = w.setCell ⟨b, 4, none⟩ (.bool true) ∨ (d.down = false ∧ 0 < d.budget) ∧ w' = w.setCell ⟨b, 2, none⟩ (.int .i64 (d.budget - 1)))
theorem spend_cells (w : World) (b : Nat) (d : Dev) (t : TypeId) (m : Int) (x0 x1 : Value) (hb : Blk w b t [x0, x1, .int .i64 m, .bool (decide (0 ≤ d.budget)), .bool d.down]) (hm : 0 ≤ d.budget → m = d.budget) (hi : d.budget ≤ 9223372036854775807) :
  Calls Tryz.prog 98 #[.pointer (some ⟨b, 0, none⟩)] w (SpendPost w b d) := by
 have h2 : w.cell? ⟨b, 2, none⟩ = some (.int .i64 m) := by rw [hb.cell]; rfl
 have h3 : w.cell? ⟨b, 3, none⟩ = some (.bool (decide (0 ≤ d.budget))) := by rw [hb.cell]; rfl
 have h4 : w.cell? ⟨b, 4, none⟩ = some (.bool d.down) := by rw [hb.cell]; rfl
 have f2 := hb.frozen 2
 have f4 := hb.frozen 4
 obtain ⟨kp, sn, wr, bd, dn⟩ := d
 simp only at h3 h4 hm hi
 clear hb
 by_cases hneg : bd < 0
 ·have e3 : decide (0 ≤ bd) = false := by simpa using hneg
  rw [e3] at h3
  have hz : (bd == 0) = false := by simp; omega
  have hp : Hid (∀ e w', (e = .returned (.bool (!dn)) ∧ w' = w) → SpendPost w b ⟨kp, sn, wr, bd, dn⟩ e w') := by
   rintro e w' ⟨rfl, rfl⟩
   exact ⟨by simp [Dev.stops, hz], .inl ⟨.inl hneg, rfl⟩⟩
  clear e3 hz hm hi
  refine Calls.mono ?_ hp.out
  cases dn
  all_goals
   go_enter Tryz.func98, Tryz.ntmps98
   go_wp2
   go_ret
   exact ⟨rfl, rfl⟩
 ·have e3 : decide (0 ≤ bd) = true := by simp; omega
  rw [e3] at h3
  have e2 := hm (by omega)
  subst e2
  by_cases hz : m = 0
  ·subst hz
   have hp : Hid (∀ e w', (e = .returned (.bool false) ∧ w' = w.setCell ⟨b, 4, none⟩ (.bool true)) → SpendPost w b ⟨kp, sn, wr, 0, dn⟩ e w') := by
    rintro e w' ⟨rfl, rfl⟩
    exact ⟨by simp [Dev.stops], .inr (.inl ⟨rfl, rfl⟩)⟩
   refine Calls.mono ?_ hp.out
   cases dn
   all_goals
    go_enter Tryz.func98, Tryz.ntmps98
    go_wp2
    go_ret
    exact ⟨rfl, rfl⟩
  ·have hz' : (m == 0) = false := by simpa using hz
   have hpos : 0 < m := by omega
   cases dn
   ·have hp : Hid (∀ e w', (e = .returned (.bool true) ∧ w' = w.setCell ⟨b, 2, none⟩ (.int .i64 (m - 1))) → SpendPost w b ⟨kp, sn, wr, m, false⟩ e w') := by
     rintro e w' ⟨rfl, rfl⟩
     exact ⟨by simp [Dev.stops, hz'], .inr (.inr ⟨⟨rfl, hpos⟩, rfl⟩)⟩
    refine Calls.mono ?_ hp.out
    go_enter Tryz.func98, Tryz.ntmps98
    go_wp2
    go_ret
    exact ⟨rfl, rfl⟩
   ·have hp : Hid (∀ e w', (e = .returned (.bool false) ∧ w' = w) → SpendPost w b ⟨kp, sn, wr, m, true⟩ e w') := by
     rintro e w' ⟨rfl, rfl⟩
     exact ⟨by simp [Dev.stops], .inl ⟨.inr ⟨rfl, hpos⟩, rfl⟩⟩
    refine Calls.mono ?_ hp.out
    go_enter Tryz.func98, Tryz.ntmps98
    go_wp2
    go_ret
    exact ⟨rfl, rfl⟩
theorem spend_any (w : World) (b : Nat) (F : Nat → Prop) (d : Dev) (h : DocRep w b F d) :
  Calls Tryz.prog 98 #[.pointer (some ⟨b, 0, none⟩)] w fun e w' => e = .returned (.bool (!d.stops)) ∧ DocRep w' b F d.after ∧ Only F w w' := by
 obtain ⟨k, wv, m, hi, hG, rfl⟩ := h
 refine (spend_cells w b d _ m _ _ hi.1 hi.2.2.2 hG.hi).mono ?_
 rintro e w' ⟨rfl, hw⟩
 have hn := hi.ne
 refine ⟨rfl, ?_⟩
 rcases hw with ⟨hc, rfl⟩ | ⟨hc, rfl⟩ | ⟨⟨hc, hp⟩, rfl⟩
 ·have e : d.after = d := by
   obtain ⟨kp, sn, wr, bd, dn⟩ := d
   simp only at hc
   rcases hc with hc | ⟨hc, hp⟩
   ·have : (bd == 0) = false := by simp; omega
    have h2 : ¬ 0 < bd := by omega
    simp [Dev.after, Dev.stops, this, h2]
   ·subst hc
    simp [Dev.after, Dev.stops]
  rw [e]
  exact ⟨⟨k, wv, m, hi, hG, rfl⟩, Only.refl _ _⟩
 ·have o1 : Only (fun i => i = b) w (w.setCell ⟨b, 4, none⟩ (.bool true)) := (Only.refl (fun i => i = b) w).setCell (p := ⟨b, 4, none⟩) (.inr rfl) _
  have e : d.after = { d with down := true } := by simp [Dev.after, Dev.stops, hc]
  refine ⟨⟨k, wv, m, ⟨?_, o1.blk hi.2.1 (Ne.symm hn.1), o1.own hi.2.2.1 (fun g e hg => hn.2.1 (hg ▸ e)), by rw [e]; exact hi.2.2.2⟩, hG.after, rfl⟩, o1.mono (fun i _ h => .inl h)⟩
  rw [e]
  exact hi.1.set_ 4 _
 ·have o1 : Only (fun i => i = b) w (w.setCell ⟨b, 2, none⟩ (.int .i64 (d.budget - 1))) := (Only.refl (fun i => i = b) w).setCell (p := ⟨b, 2, none⟩) (.inr rfl) _
  have hz : (d.budget == 0) = false := by simp; omega
  have e : d.after = { d with budget := d.budget - 1 } := by
   obtain ⟨kp, sn, wr, bd, dn⟩ := d
   simp only at hc hp hz
   subst hc
   simp [Dev.after, Dev.stops, hp, hz]
  refine ⟨⟨k, wv, d.budget - 1, ⟨?_, o1.blk (by rw [e]; exact hi.2.1) (Ne.symm hn.1), o1.own (by rw [e]; exact hi.2.2.1) (fun g e hg => hn.2.1 (hg ▸ e)), by rw [e]; exact fun _ => rfl⟩, hG.after, rfl⟩, o1.mono (fun i _ h => .inl h)⟩
  rw [e]
  have h1 : decide (0 ≤ d.budget) = true := by simp; omega
  have h2 : decide (0 ≤ d.budget - 1) = true := by simp; omega
  have := hi.1.set_ 2 (.int .i64 (d.budget - 1))
  rw [h1] at this
  show Blk _ b _ [_, _, _, .bool (decide (0 ≤ d.budget - 1)), _]
  rw [h2]
  exact this

theorem limit_any (w : World) (b : Nat) (F : Nat → Prop) (d : Dev) (n : Int) (h : DocRep w b F d) (hn : n ≤ 9223372036854775807) :
  Calls Tryz.prog 13 #[.pointer (some ⟨b, 0, none⟩), .int .i64 n] w fun e w' => e = .returned (.tuple #[]) ∧ DocRep w' b F (d.limit n) ∧ Only F w w' := by
 obtain ⟨k, wv, m, hi, hG, rfl⟩ := h
 have c3 : w.cell? ⟨b, 3, none⟩ = some (.bool (decide (0 ≤ d.budget))) := by rw [hi.1.cell]; rfl
 have c2 : w.cell? ⟨b, 2, none⟩ = some (.int .i64 m) := by rw [hi.1.cell]; rfl
 have f3 := hi.1.frozen 3
 have f2 := hi.1.frozen 2
 have HI := hide hi
 clear hi
 have hfin : Hid (∀ v : Bool, v = decide (0 ≤ n) → DocRep ((w.setCell ⟨b, 3, none⟩ (.bool v)).setCell ⟨b, 2, none⟩ (.int .i64 n)) b (fun i => i = b ∨ i = k ∨ wv.ownBlock = some i) (d.limit n) ∧ Only (fun i => i = b ∨ i = k ∨ wv.ownBlock = some i) w ((w.setCell ⟨b, 3, none⟩ (.bool v)).setCell ⟨b, 2, none⟩ (.int .i64 n))) := by
  intro v hv
  have hi := HI.out
  have hne := hi.ne
  have o1 : Only (fun i => i = b) w ((w.setCell ⟨b, 3, none⟩ (.bool v)).setCell ⟨b, 2, none⟩ (.int .i64 n)) := ((Only.refl (fun i => i = b) w).setCell (p := ⟨b, 3, none⟩) (.inr rfl) _).setCell (p := ⟨b, 2, none⟩) (.inr rfl) _
  refine ⟨⟨k, wv, n, ⟨?_, o1.blk hi.2.1 (Ne.symm hne.1), o1.own hi.2.2.1 (fun g e hg => hne.2.1 (hg ▸ e)), ?_⟩, hG.budget n hn, rfl⟩, o1.mono (fun i _ h => .inl h)⟩
  ·have e : decide (0 ≤ max n (-1)) = v := by rw [hv]; by_cases h0 : 0 ≤ n <;> simp [h0] <;> omega
   show Blk _ b _ [_, _, _, .bool (decide (0 ≤ max n (-1))), _]
   rw [e]
   exact (hi.1.set_ 3 _).set_ 2 _
  ·intro h0
   have : (d.limit n).budget = max n (-1) := rfl
   omega
 go_enter Tryz.func13, Tryz.ntmps13
 go_wp2
 all_goals
  go_end0
  refine ⟨rfl, hfin.out _ ?_⟩
  first | rfl | (simp; omega) | simp_all
def padC (c : List Int) : List Int := c ++ List.replicate (120 - c.length) 0
theorem padC_len {c : List Int} (h : c.length ≤ 120) : (padC c).length = 120 := by simp [padC]; omega
theorem slabOf_take {c : List Int} (h : c.length ≤ 120) (m : Nat) : (slabOf c m).take 120 = padC c := by
  show (padC c ++ dig m 8).take 120 = padC c
  rw [List.take_append_of_le_length (by rw [padC_len h]; omega), List.take_of_length_le (by rw [padC_len h]; omega)]
theorem slabOf_mark {c : List Int} (h : c.length ≤ 120) (m : Nat) (hm : m < 18446744073709551616) : marked (slabOf c m) = m := by
  show num ((padC c ++ dig m 8).drop 120) = m
  rw [List.drop_append_of_le_length (by rw [padC_len h]; omega), List.drop_of_length_le (by rw [padC_len h]; omega), List.nil_append, num_dig]
  exact Nat.mod_eq_of_lt (by simpa using hm)
theorem chunks_count (b : List Int) : (chunks b).length = (b.length + 119) / 120 := by simp [chunks]
theorem chunks_get (b : List Int) (i : Nat) (h : i < (b.length + 119) / 120) : (chunks b)[i]? = some ((b.drop (i * 120)).take 120) := by
  unfold chunks
  rw [List.getElem?_map, List.getElem?_range h]; rfl
theorem chunks_step (b : List Int) (h : b ≠ []) : chunks b = b.take 120 :: chunks (b.drop 120) := by
  have hl : 0 < b.length := List.length_pos_iff.2 h
  unfold chunks
  have e : (b.length + 119) / 120 = ((b.drop 120).length + 119) / 120 + 1 := by rw [List.length_drop]; omega
  rw [e, List.range_succ_eq_map, List.map_cons, List.map_map]
  congr 1
  apply List.map_congr_left
  intro i _
  show (b.drop ((i + 1) * 120)).take 120 = ((b.drop 120).drop (i * 120)).take 120
  rw [List.drop_drop, show 120 + i * 120 = (i + 1) * 120 by omega]
theorem chunks_nil : chunks [] = [] := rfl
def padded (b : List Int) : List Int := b ++ List.replicate ((b.length + 119) / 120 * 120 - b.length) 0
theorem chunks_pad : ∀ (k : Nat) (b : List Int), b.length ≤ k → (chunks b).flatMap padC = padded b
  | 0, b, h => by
    obtain rfl : b = [] := List.eq_nil_of_length_eq_zero (by omega)
    rfl
  | k + 1, b, h => by
    by_cases hb : b = []
    · subst hb; rfl
    · have hl : 0 < b.length := List.length_pos_iff.2 hb
      rw [chunks_step b hb, List.flatMap_cons]
      rw [chunks_pad k (b.drop 120) (by rw [List.length_drop]; omega)]
      unfold padC padded
      by_cases h120 : 120 ≤ b.length
      · have e1 : (b.take 120).length = 120 := by rw [List.length_take]; omega
        have e2 : ((b.drop 120).length + 119) / 120 * 120 - (b.drop 120).length = (b.length + 119) / 120 * 120 - b.length := by rw [List.length_drop]; omega
        rw [e1, e2, Nat.sub_self, List.replicate_zero, List.append_nil, ← List.append_assoc, List.take_append_drop]
      · have e1 : b.take 120 = b := List.take_of_length_le (by omega)
        have e2 : b.drop 120 = [] := List.drop_of_length_le (by omega)
        have e3 : (b.length + 119) / 120 * 120 = 120 := by omega
        rw [e1, e2, e3]
        simp
theorem padded_len (b : List Int) : (padded b).length = (b.length + 119) / 120 * 120 := by
  simp [padded]; omega
theorem slabsN_nat (n : Nat) (h : n ≤ 100000) : slabsN (n : Int) = (n + 37 + 119) / 120 := by
  unfold slabsN
  rw [if_neg (by omega)]
  omega
theorem recB_len (k : Int) (b : List Int) : (recB k b).length = b.length + 5 := by simp [recB, dig_length]; omega
theorem boundB_len (k : Int) (b a : List Int) : (boundB k b a).length = b.length + 37 := by simp [boundB, recB_len, sha_len]
theorem boundB_byt {k : Int} {b a : List Int} (hk : 0 ≤ k ∧ k ≤ 255) (hb : Byt b) : Byt (boundB k b a) :=
  byt_append (byt_append (byt_append (dig_byt _ _) (fun x hx => by rw [List.mem_singleton.1 hx]; exact hk)) hb) (sha_byt _)
def rowsR : List (List Int) → Int → List Int → List Int
  | [], _, _ => []
  | b :: l, k, a => padded (boundB k b a) ++ rowsR l 2 (sha (a ++ recB k b))
def chunksR : List (List Int) → Int → List Int → List (List Int)
  | [], _, _ => []
  | b :: l, k, a => chunks (boundB k b a) ++ chunksR l 2 (sha (a ++ recB k b))
def sealR : List (List Int) → Int → List Int → List Int
  | [], _, a => a
  | b :: l, k, a => sealR l 2 (sha (a ++ recB k b))
theorem chunksR_pad : ∀ (l : List (List Int)) (k : Int) (a : List Int), (chunksR l k a).flatMap padC = rowsR l k a
  | [], _, _ => rfl
  | b :: l, k, a => by rw [chunksR, rowsR, List.flatMap_append, chunks_pad _ _ (Nat.le_refl _), chunksR_pad l]
theorem chunksR_le : ∀ (l : List (List Int)) (k : Int) (a : List Int), ∀ c ∈ chunksR l k a, c.length ≤ 120
  | [], _, _, c, h => by cases h
  | b :: l, k, a, c, h => by
    rcases List.mem_append.1 h with h | h
    · exact chunks_len _ c h
    · exact chunksR_le l _ _ c h
theorem chunksR_more (b : List Int) : ∀ (l : List (List Int)) (x : List Int) (k : Int) (a : List Int), chunksR (x :: l ++ [b]) k a = chunksR (x :: l) k a ++ chunks (boundB 2 b (sealR (x :: l) k a)) ∧ sealR (x :: l ++ [b]) k a = sha (sealR (x :: l) k a ++ recB 2 b)
  | [], x, k, a => by simp [chunksR, sealR]
  | y :: l, x, k, a => by
    have h := chunksR_more b l y 2 (sha (a ++ recB k x))
    constructor
    · show chunks (boundB k x a) ++ chunksR (y :: l ++ [b]) 2 (sha (a ++ recB k x)) = (chunks (boundB k x a) ++ chunksR (y :: l) 2 (sha (a ++ recB k x))) ++ chunks (boundB 2 b (sealR (y :: l) 2 (sha (a ++ recB k x))))
      rw [h.1, List.append_assoc]
    · exact h.2
theorem chunksR_snoc (l : List (List Int)) (k : Int) (a b : List Int) (h : l ≠ []) : chunksR (l ++ [b]) k a = chunksR l k a ++ chunks (boundB 2 b (sealR l k a)) ∧ sealR (l ++ [b]) k a = sha (sealR l k a ++ recB 2 b) := by
  cases l with
  | nil => exact absurd rfl h
  | cons x l => exact chunksR_more b l x k a
theorem nextR_back (b rest a : List Int) (k : Int) (hb : b.length ≤ 100000) : nextR (boundB k b a ++ rest) k a = some (b, sha (a ++ recB k b)) := by
  have h4 : (boundB k b a ++ rest).take 4 = dig b.length 4 := by
    unfold boundB recB
    simp only [List.append_assoc]
    rw [List.take_append_of_le_length (by rw [dig_length]; omega), List.take_of_length_le (by rw [dig_length]; omega)]
  have hn : num ((boundB k b a ++ rest).take 4) = b.length := by
    rw [h4, num_dig]
    exact Nat.mod_eq_of_lt (by have : (256 : Nat) ^ 4 = 4294967296 := by decide
                               omega)
  have h5 : (boundB k b a ++ rest)[4]? = some k := by
    unfold boundB recB
    simp only [List.append_assoc]
    rw [List.getElem?_append_right (by rw [dig_length]; omega), dig_length]
    rfl
  have hl : (boundB k b a ++ rest).length = b.length + 37 + rest.length := by rw [List.length_append, boundB_len]
  have ht : (boundB k b a ++ rest).take (5 + b.length) = recB k b := by
    unfold boundB
    rw [List.append_assoc, List.take_append_of_le_length (by rw [recB_len]; omega), List.take_of_length_le (by rw [recB_len]; omega)]
  have hd : ((boundB k b a ++ rest).drop (5 + b.length)).take 32 = sha (a ++ recB k b) := by
    unfold boundB
    rw [List.append_assoc, List.drop_append_of_le_length (by rw [recB_len]; omega), List.drop_of_length_le (by rw [recB_len]; omega), List.nil_append, List.take_append_of_le_length (by rw [sha_len]; omega), List.take_of_length_le (by rw [sha_len]; omega)]
  have hbd : ((boundB k b a ++ rest).drop 5).take b.length = b := by
    unfold boundB recB
    rw [List.append_assoc, List.append_assoc, List.drop_append_of_le_length (by simp [dig_length]), List.drop_of_length_le (by simp [dig_length]), List.nil_append, List.take_append_of_le_length (Nat.le_refl _), List.take_of_length_le (Nat.le_refl _)]
  unfold nextR
  rw [hn]
  rw [if_neg (by omega), if_neg (by rw [h5, hl]; simp; omega), if_neg (by rw [ht, hd]; simp), hbd, ht]
theorem bodies_back : ∀ (l : List (List Int)) (k : Int) (a : List Int) (fuel : Nat), (∀ b ∈ l, b.length ≤ 100000) → l.length < fuel → bodies fuel (rowsR l k a) k a = l
  | [], _, _, fuel, _, hf => by
    obtain ⟨m, rfl⟩ : ∃ m, fuel = m + 1 := ⟨fuel - 1, by omega⟩
    rfl
  | b :: l, k, a, fuel, h, hf => by
    obtain ⟨m, rfl⟩ : ∃ m, fuel = m + 1 := ⟨fuel - 1, by omega⟩
    have hb := h b (by simp)
    have hne : rowsR (b :: l) k a ≠ [] := by
      intro e
      have := congrArg List.length e
      rw [rowsR, List.length_append, padded_len, boundB_len] at this
      simp at this
      omega
    have hx : nextR (rowsR (b :: l) k a) k a = some (b, sha (a ++ recB k b)) := by
      rw [rowsR, padded, List.append_assoc]
      exact nextR_back b _ a k hb
    have hdrop : (rowsR (b :: l) k a).drop (slabsN b.length * 120) = rowsR l 2 (sha (a ++ recB k b)) := by
      rw [rowsR]
      have : (padded (boundB k b a)).length = slabsN b.length * 120 := by rw [padded_len, boundB_len, slabsN_nat _ hb]
      rw [List.drop_append_of_le_length (by omega), List.drop_of_length_le (by omega), List.nil_append]
    rw [bodies, if_neg hne, hx]
    simp only [hdrop]
    rw [bodies_back l 2 _ m (fun c hc => h c (by simp [hc])) (by simpa using hf)]
theorem slab_eq (d : Dev) (i : Nat) : d.slab i = if i < d.kept.length then d.seen[i]?.getD zeroS else zeroS := by
  unfold Dev.slab Dev.read
  by_cases h : i < d.kept.length
  · have h1 : d.has (i : Int) = true := by simp [Dev.has]; omega
    rw [if_pos h1, if_pos h]
    simp
  · have h1 : d.has (i : Int) = false := by simp [Dev.has]; omega
    rw [h1, if_neg h]
    simp
structure Dev.Calm (d : Dev) : Prop where
  good : d.Good
  budget : d.budget = -1
  down : d.down = false
theorem Dev.Calm.after {d : Dev} (h : d.Calm) : d.after = d ∧ d.stops = false := by
  have hs : d.stops = false := by simp [Dev.stops, h.budget, h.down]
  refine ⟨?_, hs⟩
  unfold Dev.after
  rw [hs, h.budget]
  have := h.down
  have := h.budget
  cases d
  simp_all
theorem Dev.Calm.write {d : Dev} (h : d.Calm) (p : Nat) (hp : p < d.kept.length) {s : Slb} (hs : s.length = 128) :
    (d.write p s).2 = 0 ∧ (d.write p s).1.Calm ∧ (d.write p s).1.kept = d.kept ∧ ∀ i, (d.write p s).1.slab i = if i = p then s else d.slab i := by
  obtain ⟨ha, hst⟩ := h.after
  have hhas : d.has (p : Int) = true := by simp [Dev.has]; omega
  have hg := h.good.write p s hs
  have e : d.write p s = ({ d with seen := d.seen.set p s, written := d.written ++ [(p, s)] }, 0) := by
    unfold Dev.write
    rw [if_pos hhas, hst, ha]
    simp
  rw [e] at hg ⊢
  refine ⟨rfl, ⟨hg, h.budget, h.down⟩, rfl, fun i => ?_⟩
  have hsl := h.good.seen
  rw [slab_eq, slab_eq]
  show (if i < d.kept.length then (d.seen.set p s)[i]?.getD zeroS else zeroS) = _
  by_cases hi : i < d.kept.length
  · rw [if_pos hi, if_pos hi]
    by_cases hip : i = p
    · subst hip
      rw [if_pos rfl, List.getElem?_set_self (by omega)]; rfl
    · rw [if_neg hip, List.getElem?_set_ne (Ne.symm hip)]
  · rw [if_neg hi, if_neg hi, if_neg (by omega)]
theorem Dev.Calm.writeC (mark : Nat) : ∀ (cs : List (List Int)) (d : Dev) (p : Nat), d.Calm → (∀ c ∈ cs, c.length ≤ 120) → p + cs.length ≤ d.kept.length →
    (Go.Proofs.YtjnpkcabkccaoaaGreat.writeC d p mark cs).2 = 0 ∧ (Go.Proofs.YtjnpkcabkccaoaaGreat.writeC d p mark cs).1.Calm ∧ (Go.Proofs.YtjnpkcabkccaoaaGreat.writeC d p mark cs).1.kept = d.kept ∧ (∀ i, i < p ∨ p + cs.length ≤ i → (Go.Proofs.YtjnpkcabkccaoaaGreat.writeC d p mark cs).1.slab i = d.slab i) ∧ (∀ j c, cs[j]? = some c → (Go.Proofs.YtjnpkcabkccaoaaGreat.writeC d p mark cs).1.slab (p + j) = slabOf c mark)
  | [], d, p, h, _, _ => ⟨rfl, h, rfl, fun _ _ => rfl, fun j c hj => by simp at hj⟩
  | c :: l, d, p, h, hc, hp => by
    rw [List.length_cons] at hp
    obtain ⟨h0, h1, h2, h3⟩ := h.write p (by omega) (slabOf_len (hc c (by simp)) mark)
    obtain ⟨g0, g1, g2, g3, g4⟩ := Dev.Calm.writeC mark l (d.write p (slabOf c mark)).1 (p + 1) h1 (fun c hc' => hc c (by simp [hc'])) (by rw [h2]; omega)
    have e : Go.Proofs.YtjnpkcabkccaoaaGreat.writeC d p mark (c :: l) = Go.Proofs.YtjnpkcabkccaoaaGreat.writeC (d.write p (slabOf c mark)).1 ((p + 1 : Nat) : Int) mark l := by
      rw [Go.Proofs.YtjnpkcabkccaoaaGreat.writeC, if_neg (by rw [h0]; simp)]
      congr 1
    rw [e]
    refine ⟨g0, g1, g2.trans h2, fun i hi => ?_, fun j c' hj => ?_⟩
    · rw [List.length_cons] at hi
      rw [g3 i (by omega), h3 i, if_neg (by omega)]
    · rcases j with _ | j
      · obtain rfl : c = c' := by simpa using hj
        show (Go.Proofs.YtjnpkcabkccaoaaGreat.writeC _ _ mark l).1.slab p = _
        rw [g3 p (by omega), h3 p, if_pos rfl]
      · have := g4 j c' (by simpa using hj)
        rwa [show p + 1 + j = p + (j + 1) by omega] at this
theorem Dev.Calm.sync {d : Dev} (h : d.Calm) (hb : d.sync.1.Good) : d.sync.2 = 0 ∧ d.sync.1.Calm ∧ d.sync.1.kept.length = d.kept.length ∧ ∀ i, d.sync.1.slab i = d.slab i := by
  obtain ⟨ha, hst⟩ := h.after
  have e : d.sync = ({ d with kept := over d.kept d.written, written := [] }, 0) := by
    unfold Dev.sync
    rw [hst, ha]; simp
  rw [e] at hb ⊢
  refine ⟨rfl, ⟨hb, h.budget, h.down⟩, over_length _ _, fun i => ?_⟩
  rw [slab_eq, slab_eq]
  show (if i < (over d.kept d.written).length then d.seen[i]?.getD zeroS else zeroS) = _
  rw [over_length]
theorem areaFrom_rows (d : Dev) (half mark : Nat) (hm : mark < 18446744073709551616) : ∀ (cs : List (List Int)) (k i : Nat), (∀ c ∈ cs, c.length ≤ 120) → cs.length ≤ k → (∀ j c, cs[j]? = some c → d.slab (half * d.room + i + j) = slabOf c mark) →
    (k = cs.length ∨ marked (d.slab (half * d.room + i + cs.length)) ≠ mark) → areaFrom d half mark k i = cs.flatMap padC
  | [], 0, i, _, _, _, _ => rfl
  | [], k + 1, i, _, _, _, he => by
    rw [areaFrom, if_neg]
    · rfl
    · rcases he with h | h
      · simp at h
      · simpa using h
  | c :: l, 0, i, _, hk, _, _ => by simp at hk
  | c :: l, k + 1, i, hc, hk, hs, he => by
    have h0 := hs 0 c rfl
    rw [Nat.add_zero] at h0
    have hcl := hc c (by simp)
    rw [areaFrom, h0, if_pos (slabOf_mark hcl mark hm), slabOf_take hcl, List.flatMap_cons]
    congr 1
    refine areaFrom_rows d half mark hm l k (i + 1) (fun c hc' => hc c (by simp [hc'])) (by simpa using hk) (fun j c' hj => ?_) ?_
    · have := hs (j + 1) c' (by simpa using hj)
      rwa [show half * d.room + i + (j + 1) = half * d.room + (i + 1) + j by omega] at this
    · rcases he with h | h
      · left; simpa using h
      · right
        rw [List.length_cons] at h
        rwa [show half * d.room + i + (l.length + 1) = half * d.room + (i + 1) + l.length by omega] at h
structure Lies (d : Dev) (half gen : Nat) (rs : List (List Int)) : Prop where
  head : d.slab (half * d.room) = slabOf (sealedB gen) gen
  rows : ∀ j c, (chunksR rs 1 (sealB gen))[j]? = some c → d.slab (half * d.room + 1 + j) = slabOf c gen
  end_ : ∀ j, (chunksR rs 1 (sealB gen)).length ≤ j → 1 + j < d.room → marked (d.slab (half * d.room + 1 + j)) ≠ gen
  fit : 1 + (chunksR rs 1 (sealB gen)).length ≤ d.room
  small : ∀ b ∈ rs, b.length ≤ 100000
  gen : 1 ≤ gen ∧ gen ≤ mostGen
theorem Lies.stands {d : Dev} {half gen : Nat} {rs : List (List Int)} (h : Lies d half gen rs) : Go.Proofs.YtjnpkcabkccaoaaGreat.stands d half = (gen, rs) := by
  have hm : gen < 18446744073709551616 := by have := h.gen.2; unfold mostGen at this; omega
  have hl : (sealedB gen).length ≤ 120 := by rw [sealedB_len]; decide
  have hmk : marked (d.slab (half * d.room)) = gen := by rw [h.head, slabOf_mark hl gen hm]
  have ht : (d.slab (half * d.room)).take 48 = sealedB gen := by
    rw [h.head, slabOf, List.append_assoc, List.take_append_of_le_length (by rw [sealedB_len]; omega), List.take_of_length_le (by rw [sealedB_len]; omega)]
  have hh : header d half = (gen, sealB gen) := by
    unfold header
    rw [if_neg (by have := h.fit; omega), hmk, ht, if_neg]
    rintro (h1 | h1 | h1)
    · have := h.gen.1; omega
    · have := h.gen.2; omega
    · exact h1 rfl
  have ha : area d half gen = rowsR rs 1 (sealB gen) := by
    unfold area
    rw [areaFrom_rows d half gen hm (chunksR rs 1 (sealB gen)) (d.room - 1) 1 (chunksR_le _ _ _) (by have := h.fit; omega) h.rows ?_, chunksR_pad]
    by_cases he : d.room - 1 = (chunksR rs 1 (sealB gen)).length
    · exact .inl he
    · exact .inr (h.end_ _ (Nat.le_refl _) (by have := h.fit; omega))
  unfold Go.Proofs.YtjnpkcabkccaoaaGreat.stands
  rw [hh]
  simp only
  rw [if_neg (by have := h.gen.1; omega), ha, bodies_back rs 1 _ _ h.small ?_]
  have : ∀ (l : List (List Int)) (k : Int) (a : List Int), l.length ≤ (rowsR l k a).length := by
    intro l
    induction l with
    | nil => intro k a; simp
    | cons b l ih =>
      intro k a
      have := ih 2 (sha (a ++ recB k b))
      rw [rowsR, List.length_append, padded_len, boundB_len, List.length_cons]
      omega
  have := this rs 1 (sealB gen)
  omega
section
variable {P : Program}
theorem step_row {w : World} {ops : Array Oper} {o : Oper} {a : Act} {K : Act → World → Prop} {Q : Exit → Act → World → Prop} {E : Prop} (hgd : o.guard = none) (d : Nat) (hd : o.dst = some d) (s x : Operand) (t : TypeId)
  (ho : o.op = .call { callee := .builtin .append, args := #[s, x], argTypes := #[t, t] })
  (e : TypeId) (k by_ : Nat) (ht : P.underlying t = some (.slice e)) (hi : (P.info? e).map (fun i => (i.size, i.bytes, i.zero.map (fun z => z.cells.size))) = some (k, by_, some k)) (hk : 0 < k)
  (base : Nat) (v : Value) (n : Nat) (cs : List Value) (hs : a.eval s = v) (h : w.ownsRow base e k v n cs) (hbase : base ≤ w.heap.size)
  (b off m c : Nat) (news : List Value) (hx : a.eval x = .slice (some ⟨b, off, none⟩) m c) (hl : news.length = m * k) (hnews : w.rangeAt b off news) (h1 : ∀ u ∈ news, u.oneCell' = true)
  (hbytes : (n + m) * by_ ≤ 140737488355328) (hby : 0 < by_)
  (hK : ∀ A' c' w', w'.ownsRow base e k (.slice A' (n + m) c') (n + m) (cs ++ news) → n + m ≤ c' → (∀ g, (Value.slice A' (n + m) c').ownBlock = some g → v.ownBlock = some g ∨ w.heap.size ≤ g) → Only (fun i => v.ownBlock = some i) w w' → K (a.put (some d) (.slice A' (n + m) c')) w') :
  if Region.wanted o (yielded ops a.tmps) = true then Oper.wp P o a w K Q else E := by
 have hw : Region.wanted o (yielded ops a.tmps) = true := by simp [Region.wanted, hgd]
 rw [if_pos hw]
 rw [← hd] at hK
 obtain ⟨i, z, hi1, hz, hsz, hbb, hzs⟩ : ∃ i z, P.info? e = some i ∧ i.zero = some z ∧ i.size = k ∧ i.bytes = by_ ∧ z.cells.size = k := by
  cases hq : P.info? e with
  | none => simp [hq] at hi
  | some i =>
   cases hz : i.zero with
   | none => simp [hq, hz] at hi
   | some z =>
    simp [hq, hz] at hi
    exact ⟨i, z, rfl, hz, hi.1, hi.2.1, hi.2.2⟩
 have hn : n + m ≤ 140737488355328 := Nat.le_trans (Nat.le_mul_of_pos_right _ hby) hbytes
 obtain ⟨v', w', hrun, o1, g1, _, hat⟩ := run_append_own_at (P := P) w base t o.type e i z k by_ ht hi1 hz hsz hbb hzs hk v n cs h ⟨b, off, none⟩ m c news hl (fun j u hu => by rw [Addr.add_mid]; exact hnews j u hu) h1 (by simp only [maxLen]; omega) hbytes hbase
 obtain ⟨A', c', rfl, hc⟩ : ∃ A' c', v' = .slice A' (n + m) c' ∧ n + m ≤ c' := by
  rcases o1.2 with ⟨rfl, h0⟩ | ⟨g, cap, cur, rfl, _, _, hnc, _⟩
  ·exact ⟨none, 0, by rw [h0], by omega⟩
  ·exact ⟨_, cap, rfl, hnc⟩
 unfold Oper.wp execOp
 simp only [ho, resolve, invoke, builtin, Sem.run_bind, Sem.run_pure, Result.andThen_ok, List.map_toArray, List.map_cons, List.map_nil, hs, hx, hrun]
 refine hK A' c' w' o1 hc (fun g hg => ?_) ((Only.refl _ w).grown g1 (fun g hg => .inr hg))
 rcases hat with h1 | h1
 ·left; rw [← h1]; exact hg
 ·right; rw [h1] at hg; injection hg with hg; omega
end


section
variable {P : Program} {ops : Array Oper} {Q : Exit → Act → World → Prop} {l n : Nat}
theorem uponIn_of_upon {o : Oper} {a : Act} {next : Act → World → Prop} {r : Result Next} (h : o.upon P a next Q r) : o.uponIn (Fence.wide.inRound l) n P a next Q r := by
 have hd : (Fence.wide.inRound l).depth.isSome = true → 1 ≤ n := fun e => by cases e
 cases r with
 | ok x w' =>
  cases x <;> simp only [Oper.upon, Oper.uponIn] at h ⊢ <;>
   first
    | exact h
    | exact ⟨hd, CallsIn.inRound l (callsIn_wide.2 (h.mono fun e w he => by cases e <;> exact he))⟩
    | exact ⟨hd, fun c cs _ => let ⟨v, w', r, s⟩ := h c cs; ⟨v, w', r, stepsIn_wide.2 s⟩⟩
 | halt x w' => cases x <;> simp only [Oper.upon, Oper.uponIn] at h ⊢ <;> exact h
theorem wpIn_of_wp_op {o : Oper} (ho : ∀ c, o.op ≠ .defer c) {a : Act} {w : World} {K : Act → World → Prop} (h : o.wp P a w K Q) : o.wpIn (Fence.wide.inRound l) n P a w K Q := by
 refine ⟨fun _ _ => trivial, ?_⟩
 rw [Oper.semAt_eq _ _ _ ho]
 exact uponIn_of_upon h
theorem wpOpIn_of_wpOp (hd : ∀ (j : Nat) (o : Oper) c, ops[j]? = some o → o.op ≠ .defer c) (hL : ¬ LetsOut Q) {i : Nat} {K : Act → World → Prop} {a : Act} {w : World} (h : wpOp P ops Q i K a w) : wpOpIn (Fence.wide.inRound l) n P ops Q i K a w := by
 unfold wpOp at h
 unfold wpOpIn
 cases ho : ops[i]? with
 | none => rw [ho] at h; exact h
 | some o =>
  rw [ho] at h
  simp only at h ⊢
  by_cases hw : Region.wanted o (yielded ops a.tmps) = true
  ·simp only [hw, if_true] at h ⊢
   exact wpIn_of_wp_op (fun c => hd i o c ho) (h.resolve_right fun e => hL e.2)
  ·simp only [hw] at h ⊢
   exact ⟨fun _ _ => trivial, h⟩
theorem wpAnyIn_of_wpAny {md : Region.Mode} (hd : ∀ (j : Nat) (o : Oper) c, ops[j]? = some o → o.op ≠ .defer c) (hL : ¬ LetsOut Q) : ∀ (fuel : Nat) (listed : Array Bool) (a : Act) (w : World), wpAny P md ops Q fuel listed a w → wpAnyIn (Fence.wide.inRound l) n P md ops Q fuel listed a w
 | 0, _, _, _, h => h
 | fuel + 1, _, _, _, h => ⟨h.1, fun i hi => wpOpIn_of_wpOp hd hL (wpOp_mono (fun a' w' h' => wpAnyIn_of_wpAny hd hL fuel _ a' w' h') (h.2 i hi))⟩
def notDefer (o : Oper) : Bool := match o.op with | .defer _ => false | _ => true
theorem notDefer_all (h : ops.toList.all notDefer = true) (j : Nat) (o : Oper) (hj : ops[j]? = some o) : ∀ c, o.op ≠ .defer c := fun c e => by
 have h1 := List.all_eq_true.1 h o (by rw [← Array.getElem?_toList] at hj; exact List.mem_of_getElem? hj)
 rw [notDefer, e] at h1
 cases h1
theorem wpIn_region_held_drew {S : World → Prop} {id : Nat} {a : Act} {w : World} (hd : ops.toList.all notDefer = true) (hL : ¬ LetsOut Q) (hm : P.follows .mixedOrders = true) (hS : S w.drew)
  (h : S w.drew → wpAnyH P .any ops Q S ops.size (Array.replicate ops.size false) a w.drew) : (Code.region id ops true).wpIn (Fence.wide.inRound l) n P Q a w :=
 wpIn_region_any hm (wpAnyIn_of_wpAny (fun j o c hj => notDefer_all hd j o hj c) hL _ _ _ _ (wpAny_of_held _ _ _ _ (h hS)))
end
def calm (Q : Exit → Act → World → Prop) : Exit → Act → World → Prop
 | .panic _, _, _ => False
 | .outgrown, _, _ => False
 | .normal, a, w => Q .normal a w
 | .ret, a, w => Q .ret a w
 | .exit i, a, w => Q (.exit i) a w
 | .goto t, a, w => Q (.goto t) a w
theorem calm_le {Q : Exit → Act → World → Prop} : ∀ (e : Exit) (a : Act) (w : World), calm Q e a w → Q e a w
 | .normal, _, _, h => h
 | .ret, _, _, h => h
 | .exit _, _, _, h => h
 | .goto _, _, _, h => h
theorem wp_calm {P : Program} {c : Code} {Q : Exit → Act → World → Prop} {a : Act} {w : World} (h : c.wp P (calm Q) a w) : c.wp P Q a w := (wpIn_wide (n := 1)).1 (wpIn_mono (wpIn_wide.2 h) calm_le)
def marks (ds : List Nat) : List Deferred := ds.map fun D => { target := .collected D, args := #[] }
def KC (n0 : Nat) (A B : World) : Prop := Below n0 A B ∧ ∀ (i : Nat) (o : Obj), A.heap[i]? = some o → o.isCells = true → B.heap[i]? = some o
theorem KC.refl (n0 : Nat) (A : World) : KC n0 A A := ⟨Below.refl _ A, fun _ _ h _ => h⟩
theorem leaves_marks {F : Fence} {n : Nat} {P : Program} {fn : Func} {tmps : Array Value} {R : Ending → World → Prop} {n0 : Nat} : ∀ (ds : List Nat) (w : World), ds.Nodup → (∀ D ∈ ds, n0 ≤ D ∧ w.heap[D]? = some (.deferred (some []))) →
  (∀ w', KC n0 w w' → LeavesIn F n P fn tmps R [] .returning w') → LeavesInM F n P fn tmps R (marks ds) .returning w
 | [], w, _, _, h => h w (KC.refl _ _)
 | D :: ds, w, hn, hm, h => by
  obtain ⟨h0, hD⟩ := hm D (by simp)
  have hlt : D < w.heap.size := (Array.getElem?_eq_some_iff.1 hD).1
  have hoth : ∀ i, i ≠ D → (w.putObj D (.deferred none)).heap[i]? = w.heap[i]? := fun i hi => World.putObj_heap_other hi
  have hg := grownBy_putObj' w D (.deferred none)
  have hn' := List.nodup_cons.1 hn
  refine ⟨by simp, .inl ⟨_, _, rfl, run_takeDeferred hD, ?_⟩⟩
  refine leaves_marks (n0 := n0) ds _ hn'.2 (fun E hE => ?_) (fun w' hk => h w' ⟨?_, fun i o hi hc => ?_⟩)
  ·obtain ⟨h1, h2⟩ := hm E (List.mem_cons_of_mem _ hE)
   refine ⟨h1, (hoth E (fun e => hn'.1 (e ▸ hE))).trans h2⟩
  ·exact (((Below.refl n0 w).grown hg (by omega) (fun k e => by cases e; exact h0))).trans hk.1
  ·refine hk.2 i o ((hoth i (fun e => ?_)).trans hi) hc
   subst e
   rw [hD] at hi
   cases hi
   cases hc
end Go.Proofs.YtjnpkcabkccaoaaGreat
