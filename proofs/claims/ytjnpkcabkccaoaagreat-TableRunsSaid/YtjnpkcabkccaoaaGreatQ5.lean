/- Lemmas and walks for TableRuns, packed. -/
import Derived.Test.YtjnpkcabkccaoaaGreatQ3
set_option maxRecDepth 100000
set_option maxHeartbeats 16000000
namespace Go.Proofs.YtjnpkcabkccaoaaGreat
open Go.RowKit
def RdAt (T : TypeId) (w : World) (g h : Nat) (r : Rd) : Prop :=
 ∃ A n c, Blk w g T [.slice A n c, .int .i64 r.err] ∧ Bys w A n r.rest ∧ n ≤ c ∧ (0 < n → (∀ ad, A = some ad → ad.block = h) ∧ g ≠ h) ∧ h < w.heap.size ∧ n ≤ 1000000000
section
variable {T : TypeId} {w w' : World} {g h : Nat} {r : Rd} {F : Nat → Prop}
theorem RdAt.keep (hR : RdAt T w g h r) (ho : Only F w w') (hg : ¬ F g) (hh : ¬ F h) : RdAt T w' g h r := by
 obtain ⟨A, n, c, hb, hB, hc, hA, hlt, hn⟩ := hR
 exact ⟨A, n, c, ho.blk hb hg, hB.keep ho (fun h0 ad e hf => hh (by rw [← (hA h0).1 ad e]; exact hf)), hc, hA, Nat.lt_of_lt_of_le hlt ho.size, hn⟩
theorem RdAt.below (hR : RdAt T w g h r) (hb : Below w.heap.size w w') : RdAt T w' g h r :=
 hR.keep (Only.of_below hb (fun _ => False)) (fun h => h) (fun h => h)
theorem RdAt.lt (hR : RdAt T w g h r) : g < w.heap.size ∧ h < w.heap.size := by
 obtain ⟨A, n, c, hb, _, _, _, hlt, _⟩ := hR
 exact ⟨hb.lt, hlt⟩
theorem RdAt.turn {A : Option Addr} {n c : Nat} {x : Value} {rest : List Int} {err : Int} (hb : Blk w g T [x, .int .i64 err]) (hB : Bys w A n rest) (hc : n ≤ c) (hA : 0 < n → (∀ ad, A = some ad → ad.block = h) ∧ g ≠ h) (hlt : h < w.heap.size) (hn : n ≤ 1000000000) :
  RdAt T (w.setCell ⟨g, 0, none⟩ (.slice A n c)) g h ⟨rest, err⟩ := by
 have o := (Only.refl (fun i => i = g) w).setCell (p := ⟨g, 0, none⟩) (.inr rfl) (.slice A n c)
 exact ⟨A, n, c, by simpa using hb.set_ 0 (.slice A n c), hB.keep o (fun h0 ad e hf => (hA h0).2 (by rw [← (hA h0).1 ad e]; exact hf.symm)), hc, hA, Nat.lt_of_lt_of_le hlt o.size, hn⟩
theorem RdAt.fail {A : Option Addr} {n c : Nat} {x : Value} {rest : List Int} {err : Int} (hb : Blk w g T [.slice A n c, x]) (hB : Bys w A n rest) (hc : n ≤ c) (hA : 0 < n → (∀ ad, A = some ad → ad.block = h) ∧ g ≠ h) (hlt : h < w.heap.size) (hn : n ≤ 1000000000) :
  RdAt T (w.setCell ⟨g, 1, none⟩ (.int .i64 err)) g h ⟨rest, err⟩ := by
 have o := (Only.refl (fun i => i = g) w).setCell (p := ⟨g, 1, none⟩) (.inr rfl) (.int .i64 err)
 exact ⟨A, n, c, by simpa using hb.set_ 1 (.int .i64 err), hB.keep o (fun h0 ad e hf => (hA h0).2 (by rw [← (hA h0).1 ad e]; exact hf.symm)), hc, hA, Nat.lt_of_lt_of_le hlt o.size, hn⟩
end
theorem Only.cell1 (w : World) (g i : Nat) (v : Value) : Only (fun j => j = g) w (w.setCell ⟨g, i, none⟩ v) := (Only.refl (fun j => j = g) w).setCell (.inr rfl) _
theorem Bys.zero (w : World) (A : Option Addr) (bs : List Int) {n : Nat} (hl : bs.length = n) (h0 : n = 0) : Bys w A n bs := by
 subst h0
 have := List.eq_nil_of_length_eq_zero hl
 subst this
 exact Bys.nil w A
theorem Bys.from_ {w : World} {b off n : Nat} {bs : List Int} (h : Bys w (some ⟨b, off, none⟩) n bs) (k : Nat) (hk : k ≤ n) : Bys w (some ⟨b, off + k, none⟩) (n - k) (bs.drop k) := by
 have hl := h.1
 refine ⟨by simp [hl], fun v hv => h.2.1 v (List.mem_of_mem_drop hv), fun hm => ?_⟩
 obtain ⟨b2, o2, e, hc⟩ := h.2.2 (by omega)
 injection e with e
 injection e with e1 e2
 subst e1; subst e2
 refine ⟨b, off + k, rfl, fun j v hv => ?_⟩
 rw [Nat.add_assoc]
 rw [List.getElem?_drop] at hv
 exact hc (k + j) v hv
theorem Bys.sub {w : World} {b off n : Nat} {bs : List Int} (h : Bys w (some ⟨b, off, none⟩) n bs) (i m : Nat) (hi : i + m ≤ n) : Bys w (some ⟨b, off + i, none⟩) m ((bs.drop i).take m) := by
 have hl := h.1
 refine ⟨by simp [hl]; omega, fun v hv => h.2.1 v (List.mem_of_mem_drop (List.mem_of_mem_take hv)), fun hm => ?_⟩
 obtain ⟨b2, o2, e, hc⟩ := h.2.2 (by omega)
 injection e with e
 injection e with e1 e2
 subst e1; subst e2
 refine ⟨b, off + i, rfl, fun j v hv => ?_⟩
 rw [Nat.add_assoc]
 refine hc (i + j) v ?_
 rw [List.getElem?_take] at hv
 split at hv
 ·rwa [List.getElem?_drop] at hv
 ·cases hv
theorem Bys.head {w : World} {A : Option Addr} {n : Nat} {bs : List Int} (h : Bys w A n bs) (m : Nat) (hm : m ≤ n) : Bys w A m (bs.take m) := by
 refine ⟨by simp [h.1]; omega, fun v hv => h.2.1 v (List.mem_of_mem_take hv), fun hm0 => ?_⟩
 obtain ⟨b, off, e, hc⟩ := h.2.2 (by omega)
 refine ⟨b, off, e, fun j v hv => hc j v ?_⟩
 rw [List.getElem?_take] at hv
 split at hv
 ·exact hv
 ·cases hv
def RawPost (T : TypeId) (w : World) (g h : Nat) (r' : Rd) (bs : List Int) (e : Ending) (w' : World) : Prop :=
 ∃ A m c, e = .returned (.slice A m c) ∧ Bys w' A m bs ∧ m ≤ c ∧ Fr w A ∧ RdAt T w' g h r' ∧ Only (fun i => i = g) w w'
theorem New_any (w : World) (A : Option Addr) (n c : Nat) (bs : List Int) (hB : Bys w A n bs) (hn : n ≤ 1000000000) :
  Calls Tryz.prog 107 #[.slice A n c] w fun e w' => ∃ g h, e = .returned (.pointer (some ⟨g, 0, none⟩)) ∧ RdAt 186 w' g h ⟨bs, 0⟩ ∧ w.heap.size ≤ g ∧ w.heap.size ≤ h ∧ Below w.heap.size w w' := by
 go_enter Tryz.func107, Tryz.ntmps107
 go_wp2_with (go_at_call 39; refine (clone_any w w A n c bs (Below.refl _ _) hB (by omega)).mono ?_; rintro e w1 ⟨A1, n1, c1, rfl, t1, f1⟩)
 go_ret
 have b1 := Blk.new w1 186 [.slice A1 n1 c1, .int .i64 0]
 have hs := t1.below.size
 have hlen : n1 ≤ 1000000000 := by have := t1.len; have := hB.1; omega
 have hbel : Below w.heap.size w (w1.alloc (.cells #[.slice A1 n1 c1, .int .i64 0] 186)) := t1.below.trans ((Below.refl _ w1).alloc hs _)
 by_cases h0 : 0 < n1
 ·obtain ⟨b, off, rfl, _⟩ := t1.bys.2.2 h0
  have hlt := t1.bys.lt h0 _ rfl
  have hf := f1 (Fr.none _) _ rfl
  refine ⟨w1.heap.size, b, rfl, ⟨_, n1, c1, b1, t1.bys.alloc _, t1.cap, fun _ => ⟨fun ad e => by injection e with e; rw [← e], by simp at hlt; omega⟩, by simp at hlt ⊢; omega, hlen⟩, hs, hf, hbel⟩
 ·exact ⟨w1.heap.size, w1.heap.size, rfl, ⟨_, n1, c1, b1, t1.bys.alloc _, t1.cap, fun h => absurd h h0, by simp, hlen⟩, hs, hs, hbel⟩
theorem Raw_any (w : World) (g h : Nat) (r : Rd) (n : Int) (hR : RdAt 186 w g h r) :
  Calls Tryz.prog 123 #[.pointer (some ⟨g, 0, none⟩), .int .i64 n] w (RawPost 186 w g h (r.raw n).2 (r.raw n).1) := by
 obtain ⟨rest, err⟩ := r
 have hR0 := hR
 obtain ⟨A, m, c, hb, hB, hc, hA, hlt, hm⟩ := hR
 have c0 : w.cell? ⟨g, 0, none⟩ = some (.slice A m c) := (hb.cell 0).trans rfl
 have c1 : w.cell? ⟨g, 1, none⟩ = some (.int .i64 err) := (hb.cell 1).trans rfl
 have f0 := hb.frozen 0
 have f1 := hb.frozen 1
 have HL := hide hB.1
 have HA := hide hA
 clear hA
 by_cases he : err = 0
 ·subst he
  by_cases h1 : n < 1
  ·have E : Hid (Rd.raw ⟨rest, 0⟩ n = ([], ⟨rest, 0⟩)) := hide (by simp [Rd.raw, h1])
   go_enter Tryz.func123, Tryz.ntmps123
   go_wp2
   go_ret
   rw [E.out]
   exact ⟨none, 0, 0, rfl, Bys.nil _ _, Nat.le_refl _, Fr.none _, hR0, Only.refl _ _⟩
  ·by_cases h2 : (m : Int) < n
   ·have E : Hid (Rd.raw ⟨rest, 0⟩ n = ([], ⟨rest, 61⟩)) := hide (by simp [Rd.raw, h1, HL.out, h2])
    have n0 : 0 ≤ n := by omega
    go_enter Tryz.func123, Tryz.ntmps123
    go_wp2
    go_ret
    rw [E.out]
    exact ⟨none, 0, 0, rfl, Bys.nil _ _, Nat.le_refl _, Fr.none _, RdAt.fail hb hB hc HA.out hlt hm, Only.cell1 _ _ _ _⟩
   ·have hn0 : 1 ≤ n := by omega
    obtain ⟨b, off, rfl, _⟩ := hB.2.2 (by omega)
    obtain ⟨k, rfl⟩ : ∃ k : Nat, n = k := ⟨n.toNat, by omega⟩
    have E : Hid (Rd.raw ⟨rest, 0⟩ k = (rest.take k, ⟨rest.drop k, 0⟩)) := hide (by simp [Rd.raw, h1, HL.out, h2])
    have hk : k ≤ m := by omega
    clear h1 h2
    go_enter Tryz.func123, Tryz.ntmps123
    go_wp2_with (go_at_call 39; refine (clone_any w w _ k c (rest.take k) (Below.refl _ _) (hB.head k hk) (by omega)).mono ?_; rintro e w1 ⟨A1, n1, c1, rfl, t1, f1⟩; have b1 := hb.under t1.below; have c0' := b1.c0; have f0' := b1.frozen 0)
    all_goals
     go_ret
     rw [E.out]
     have hf := f1 (Fr.none _)
     have hlg := hb.lt
     have hsz := t1.below.size
     refine ⟨A1, n1, c1, rfl, t1.bys.keep (Only.cell1 _ _ _ _) (fun _ ad e hg => by have := hf ad e; omega), t1.cap, hf, RdAt.turn b1 ?_ (by omega) (fun _ => ⟨fun ad e => ?_, (HA.out (by omega)).2⟩) (by omega) (by omega), (Only.of_below t1.below _).trans (Only.cell1 _ _ _ _) (fun _ _ h => h)⟩
     ·first
       | exact Bys.zero _ _ _ (by rw [List.length_drop, HL.out]) (by omega)
       | exact (hB.below t1.below).from_ k hk
     ·injection e with e
      rw [← e]
      exact (HA.out (by omega)).1 ⟨b, off, none⟩ rfl
 ·have E : Hid (Rd.raw ⟨rest, err⟩ n = ([], ⟨rest, err⟩)) := hide (by simp [Rd.raw, he])
  have he' : (err != 0) = true := by simpa using he
  go_enter Tryz.func123, Tryz.ntmps123
  go_wp2
  go_ret
  rw [E.out]
  exact ⟨none, 0, 0, rfl, Bys.nil _ _, Nat.le_refl _, Fr.none _, hR0, Only.refl _ _⟩
theorem Left_any (w : World) (g h : Nat) (r : Rd) (hR : RdAt 186 w g h r) :
  Calls Tryz.prog 112 #[.pointer (some ⟨g, 0, none⟩)] w fun e w' => e = .returned (.int .i64 r.rest.length) ∧ w = w' := by
 obtain ⟨A, m, c, hb, hB, hc, hA, hlt, hm⟩ := hR
 have c0 := hb.c0
 have HL := hide hB.1
 go_enter Tryz.func112, Tryz.ntmps112
 go_wp2
 go_ret
 exact ⟨by rw [HL.out]; rfl, rfl⟩
theorem Err_any (w : World) (g h : Nat) (r : Rd) (hR : RdAt 186 w g h r) :
  Calls Tryz.prog 109 #[.pointer (some ⟨g, 0, none⟩)] w fun e w' => e = .returned (.int .i64 r.err) ∧ w = w' := by
 obtain ⟨A, m, c, hb, hB, hc, hA, hlt, hm⟩ := hR
 have c1 := hb.c1
 go_enter Tryz.func109, Tryz.ntmps109
 go_wp2
 go_ret
 exact ⟨rfl, rfl⟩
end Go.Proofs.YtjnpkcabkccaoaaGreat
