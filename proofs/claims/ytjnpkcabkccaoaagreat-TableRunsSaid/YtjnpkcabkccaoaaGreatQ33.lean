/- Lemmas and walks for TableRuns, packed. -/
import Derived.Test.YtjnpkcabkccaoaaGreatQ16
import Derived.Test.YtjnpkcabkccaoaaGreatQ27
import Derived.Test.YtjnpkcabkccaoaaGreatQ13
import Derived.Test.YtjnpkcabkccaoaaGreatQ30
import Derived.Test.YtjnpkcabkccaoaaGreatQ22
import Derived.Test.YtjnpkcabkccaoaaGreatQ32
import Derived.Test.YtjnpkcabkccaoaaGreatQ3
import Derived.Test.YtjnpkcabkccaoaaGreatQ31
import Derived.Laws.IdiomStrings
import Derived.Laws.Concat
set_option maxRecDepth 100000
set_option maxHeartbeats 16000000
namespace Go.Proofs.YtjnpkcabkccaoaaGreat
open Go.RowKit
theorem ba_size (bs : List Int) : (ba bs).size = bs.length := by
 have h := congrArg List.length (ba_data bs)
 rw [List.length_map, Array.length_toList] at h
 exact h
theorem ba_append (a b : List Int) : ba a ++ ba b = ba (a ++ b) := by
 apply ByteArray.ext
 apply Array.ext'
 rw [ba_data, List.map_append, ← ba_data a, ← ba_data b]
 simp [ByteArray.data_append]
theorem ba_extract (bs : List Int) (i j : Nat) : (ba bs).extract i j = ba ((bs.drop i).take (j - i)) := by
 apply ByteArray.ext
 apply Array.ext'
 rw [ba_data, List.map_take, List.map_drop, ← ba_data]
 simp [ByteArray.data_extract]
theorem ba_get (bs : List Int) (hB : Byt bs) (i : Nat) (h : i < (ba bs).size) : ((ba bs)[i].toNat : Int) = bs[i]'(by rw [ba_size] at h; exact h) := by
 have hl : i < bs.length := by rw [ba_size] at h; exact h
 have h1 : (ba bs).data.toList[i]? = some (ba bs)[i] := by
  have h2 : i < (ba bs).data.toList.length := by rw [Array.length_toList]; exact h
  rw [List.getElem?_eq_getElem h2, Array.getElem_toList]
  rfl
 rw [ba_data, List.getElem?_map, List.getElem?_eq_getElem hl] at h1
 have h2 : UInt8.ofNat (bs[i]).toNat = (ba bs)[i] := by simpa using h1
 have h3 := hB bs[i] (List.getElem_mem hl)
 rw [← h2, UInt8.toNat_ofNat']
 omega
theorem str_at (bs : List Int) (hB : Byt bs) (i : Nat) (x : Int) (hx : bs[i]? = some x) (w : World) : (Instr.index 9 (.string (ba bs)) (.int .i64 (i : Int))).run Tryz.prog w = .ok (.int .u8 x) w := by
 obtain ⟨hl, rfl⟩ := List.getElem?_eq_some_iff.1 hx
 have hs : i < (ba bs).size := by rw [ba_size]; exact hl
 rw [run_index_string w 9 (ba bs) .i64 (i : Int) Tryz.underlying9, dif_pos (by omega)]
 have := ba_get bs hB i hs
 simp only [Int.toNat_natCast]
 rw [this]
theorem str_part (bs : List Int) (i j : Nat) (hij : i ≤ j) (hj : j ≤ bs.length) (w : World) : (Instr.slice 9 (.string (ba bs)) (some (.int .i64 (i : Int))) (some (.int .i64 (j : Int))) none).run Tryz.prog w = .ok (.string (ba ((bs.drop i).take (j - i)))) w := by
 rw [run_slice_string w 9 (ba bs) .i64 .i64 (i : Int) (j : Int) Tryz.underlying9 (by omega) (by omega) (by rw [ba_size]; omega), Int.toNat_natCast, Int.toNat_natCast, ba_extract]
theorem str_from (bs : List Int) (i : Nat) (hi : i ≤ bs.length) (w : World) : (Instr.slice 9 (.string (ba bs)) (some (.int .i64 (i : Int))) none none).run Tryz.prog w = .ok (.string (ba (bs.drop i))) w := by
 rw [run_slice_string_l w 9 (ba bs) Tryz.underlying9 .i64 (i : Int) (by omega) (by rw [ba_size]; omega), Int.toNat_natCast, ba_extract, ba_size, List.take_of_length_le (by rw [List.length_drop]; exact Nat.le_refl _)]
theorem str_bytes (w : World) (bs : List Int) (hB : Byt bs) :
  ∃ w' c, (convert 9 23 (.string (ba bs))).run Tryz.prog w = .ok (.slice (some ⟨w.heap.size, 0, none⟩) bs.length c) w' ∧ Below w.heap.size w w' ∧ Bys w' (some ⟨w.heap.size, 0, none⟩) bs.length bs := by
 have hr := run_bytes_of_string (P := Tryz.prog) w 9 23 5 (ba bs) Tryz.underlying9 Tryz.underlying23 Tryz.underlying5
 obtain ⟨c, hc⟩ : ∃ c, c = grownCap w (ba bs).size 0 5 := ⟨_, rfl⟩
 rw [← hc] at hr
 obtain ⟨f, hf⟩ : ∃ f, f = ((bytesRow (ba bs) c).size, (bytesRow (ba bs) c).size + 1) := ⟨_, rfl⟩
 rw [← hf] at hr
 refine ⟨_, c, by rw [hr, ba_size], (Below.refl _ w).drew.trans ((Below.refl _ w.drew).alloc (Nat.le_refl _) _), rfl, hB, fun _ => ⟨w.heap.size, 0, rfl, fun j v hv => ?_⟩⟩
 have hrow : (bytesRow (ba bs) c)[j]? = some (.int .u8 v) := by
  have h1 : ((ba bs).data.map fun b => Value.int .u8 b.toNat)[j]? = some (.int .u8 v) := by
   rw [Array.getElem?_map, ← Array.getElem?_toList, ba_data, List.getElem?_map, hv]
   have h3 := hB v (List.mem_of_getElem? hv)
   have e : ((UInt8.ofNat v.toNat).toNat : Int) = v := by rw [UInt8.toNat_ofNat']; omega
   show some (Value.int .u8 ((UInt8.ofNat v.toNat).toNat : Int)) = _
   rw [e]
  rw [bytesRow, Array.getElem?_append_left (by exact (Array.getElem?_eq_some_iff.1 h1).1)]
  exact h1
 unfold World.cell?
 have hh : (w.drew.alloc (.cells (bytesRow (ba bs) c) 5 f)).heap[w.heap.size]? = some (.cells (bytesRow (ba bs) c) 5 f) := by
  show (w.heap.push _)[w.heap.size]? = _
  simp
 rw [hh]
 simpa using hrow
theorem rHalf_any (w : World) (b : Nat) (F : Nat → Prop) (d : Dev) (h : DocRep w b F d) :
    Calls Tryz.prog 68 #[.pointer (some ⟨b, 0, none⟩)] w fun e w' => e = .returned (.int .i64 (d.room : Int)) ∧ w' = w := by
  obtain ⟨k, wv, m, hi, hg, hF⟩ := h
  have c0 : w.cell? ⟨b, 0, none⟩ = some (.slice (some ⟨k, 0, none⟩) d.kept.length d.kept.length) := (hi.1.cell 0).trans rfl
  have hq : ((d.kept.length : Int)).tdiv 2 = (d.room : Int) := by rw [Int.tdiv_eq_ediv_of_nonneg (by omega), Dev.room]; omega
  have hw : IntKind.i64.wrap (d.room : Int) = (d.room : Int) := by have := hg.few; rw [IntKind.wrap_i64]; unfold Dev.room; omega
  clear hi hg hF
  go_enter Tryz.func68, Tryz.ntmps68
  go_wp2
  go_ret
  exact ⟨rfl, rfl⟩
theorem rSlabs_any (w : World) (n : Int) (h0 : 0 ≤ n) (h1 : n ≤ 1000000000) :
    Calls Tryz.prog 63 #[.int .i64 n] w fun e w' => e = .returned (.int .i64 (slabsN n : Int)) ∧ w' = w := by
  have hs : (slabsN n : Int) = (n + 156) / 120 := by rw [slabsN, if_neg (by omega)]; omega
  have q1 : (n + 37).tdiv 120 = (n + 37) / 120 := Int.tdiv_eq_ediv_of_nonneg (by omega)
  have q2 : (n + 37).tmod 120 = (n + 37) % 120 := Int.tmod_eq_emod_of_nonneg (by omega)
  obtain ⟨q, hq⟩ : ∃ q, q = (n + 37) / 120 := ⟨_, rfl⟩
  obtain ⟨r, hr⟩ : ∃ r, r = (n + 37) % 120 := ⟨_, rfl⟩
  rw [← hq] at q1
  rw [← hr] at q2
  have w1 : IntKind.i64.wrap (n + 37) = n + 37 := by rw [IntKind.wrap_i64]; omega
  have w2 : IntKind.i64.wrap q = q := by rw [IntKind.wrap_i64]; omega
  have w3 : IntKind.i64.wrap (q + 1) = q + 1 := by rw [IntKind.wrap_i64]; omega
  have n0 : ¬ n < 0 := by omega
  by_cases hz : 0 < r
  · have E := hide (show (slabsN n : Int) = q + 1 by omega)
    clear hs hq hr h0 h1
    go_enter Tryz.func63, Tryz.ntmps63
    go_wp2
    go_ret
    exact ⟨by rw [E.out]; rfl, rfl⟩
  · have E := hide (show (slabsN n : Int) = q by omega)
    clear hs hq hr h0 h1
    go_enter Tryz.func63, Tryz.ntmps63
    go_wp2
    go_ret
    exact ⟨by rw [E.out]; rfl, rfl⟩
theorem rFits_any (w : World) (b : Nat) (F : Nat → Prop) (d : Dev) (n : Int) (h : DocRep w b F d) (h0 : 0 ≤ n) (h1 : n ≤ 1000000000) :
    Calls Tryz.prog 34 #[.pointer (some ⟨b, 0, none⟩), .int .i64 n] w fun e w' => e = .returned (.bool (fitsB d n)) ∧ w' = w := by
  have H := hide h
  have HN := hide (And.intro h0 h1)
  have E := hide (show fitsB d n = (decide (n ≤ 100000) && decide (1 + (slabsN n : Int) ≤ (d.room : Int))) by rw [fitsB, decide_eq_true h0, Bool.true_and])
  have hsl : (0 : Int) ≤ (slabsN n : Int) ∧ (slabsN n : Int) ≤ 10000000 := by unfold slabsN; rw [if_neg (by omega)]; omega
  have hro : (0 : Int) ≤ (d.room : Int) ∧ (d.room : Int) ≤ 4096 := by have := h.good.few; unfold Dev.room; omega
  clear h
  by_cases hb : n ≤ 100000
  · have HB := hide hb
    go_enter Tryz.func34, Tryz.ntmps34
    go_wp2_with fail
    refine (rSlabs_any w n HN.out.1 HN.out.2).mono ?_
    rintro e wz ⟨rfl, hwz⟩
    rw [hwz]
    clear hwz
    obtain ⟨s, hs⟩ : ∃ s : Int, s = (slabsN n : Int) := ⟨_, rfl⟩
    have HS := hide hs
    rw [← hs] at hsl ⊢
    clear hs
    have w1 : IntKind.i64.wrap (1 + s) = 1 + s := by rw [IntKind.wrap_i64]; omega
    go_wp2_with fail
    refine (rHalf_any w b F d H.out).mono ?_
    rintro e wz ⟨rfl, hwz⟩
    rw [hwz]
    clear hwz
    obtain ⟨r, hr⟩ : ∃ r : Int, r = (d.room : Int) := ⟨_, rfl⟩
    have HR := hide hr
    rw [← hr]
    clear hr
    by_cases hf : 1 + s ≤ r
    all_goals
      have HF := hide hf
      clear hf
      go_wp2_with fail
      go_ret
      refine ⟨?_, rfl⟩
      rw [E.out, ← HS.out, ← HR.out, decide_eq_true HB.out, Bool.true_and]
      first
        | (rw [decide_eq_true HF.out]; done)
        | (have h9 : ¬ 1 + s ≤ r := by have := HF.out; omega
           rw [decide_eq_false h9]; done)
        | (rw [decide_eq_true HF.out]; rfl)
        | (have h9 : ¬ 1 + s ≤ r := by have := HF.out; omega
           rw [decide_eq_false h9]; rfl)
  · have HB := hide hb
    clear hsl hro
    go_enter Tryz.func34, Tryz.ntmps34
    go_wp2_with fail
    go_ret
    exact ⟨by rw [E.out, decide_eq_false (show ¬ n ≤ 100000 by have := HB.out; omega), Bool.false_and]; rfl, rfl⟩
theorem rnumber_any (w : World) (bs : List Int) (hB : Byt bs) (hl : bs.length ≤ 8) :
    Calls Tryz.prog 91 #[.string (ba bs)] w fun e w' => e = .returned (.int .u64 (num bs)) ∧ w' = w := by
  have HL := hide hl
  have HB := hide hB
  obtain ⟨n, hn⟩ : ∃ n, n = bs.length := ⟨_, rfl⟩
  have hsz : (ba bs).size = n := by rw [ba_size, hn]
  have HN := hide hn
  obtain ⟨S, hS⟩ : ∃ S, S = ba bs := ⟨_, rfl⟩
  have hat := fun (i : Nat) (x : Int) (hx : bs[i]? = some x) => str_at bs hB i x hx w
  rw [← hS] at hsz hat ⊢
  have HAT := hide hat
  clear hn hS hB hl hat
  go_enter Tryz.func91, Tryz.ntmps91
  go_wp2
  go_loop [3, 4, 5] (fun s q i => ∃ j N W : Nat, j ≤ n ∧ i = .int .i64 j ∧ s = .int .u64 (N : Int) ∧ q = .int .u64 (W : Int) ∧ N = num (bs.take j) ∧ W = 256 ^ j % 18446744073709551616) (fun _ _ i => n - (intOf i).toNat)
  case atStart => exact ⟨0, 0, 1, by omega, rfl, rfl, rfl, by simp [num], by decide⟩
  case round =>
    obtain ⟨j, N, W, hj, rfl, rfl, rfl, hN, hW⟩ := hrel
    by_cases hlt : j < n
    · obtain ⟨x, hx⟩ : ∃ x, bs[j]? = some x := ⟨_, List.getElem?_eq_getElem (by rw [← HN.out]; exact hlt)⟩
      have cx := HAT.out j x hx
      have hxx := HB.out x (List.mem_of_getElem? hx)
      obtain ⟨x, rfl⟩ : ∃ y : Nat, x = y := ⟨x.toNat, by omega⟩
      have hs := num_take_succ bs j x hx
      have hjn : j ≤ 7 := by have := HL.out; have := HN.out; omega
      have hNl : N < 256 ^ j := by
        have := num_lt (bs.take j) (fun y hy => HB.out y (List.mem_of_mem_take hy))
        rw [List.length_take, Nat.min_eq_left (by have := HN.out; omega)] at this
        omega
      have hP : 256 ^ j < 18446744073709551616 := Nat.lt_of_le_of_lt (Nat.pow_le_pow_right (by decide) hjn) (by decide)
      have hW' : W = 256 ^ j := by rw [hW, Nat.mod_eq_of_lt hP]
      obtain ⟨p1, p2, p3⟩ := pow_facts j N x (by omega) hNl (by omega)
      rw [← hW'] at p1 p2 p3
      have hu : IntKind.u64.wrap (x : Int) = (x : Int) := by rw [IntKind.wrap_u64]; omega
      rw [Int.toNat_natCast, ← hN, ← hW'] at hs
      generalize hy : x * W = y at *
      generalize hz : 256 ^ (j + 1) % 18446744073709551616 = z at *
      have HS := hide hs
      have HZ := hide hz
      have j9 : IntKind.i64.wrap ((j : Int) + 1) = (j : Int) + 1 := by rw [IntKind.wrap_i64]; omega
      have HJ := hide hlt
      clear hs hz hy hW' hP hNl hxx hx hN hW hjn
      go_wp2
      exact ⟨⟨j + 1, N + y, z, by have := HJ.out; omega, by push_cast; rfl, rfl, rfl, HS.out.symm, HZ.out.symm⟩, by have := HJ.out; simp [intOf]; omega⟩
    · obtain rfl : j = n := by omega
      rw [List.take_of_length_le (by rw [← HN.out]; exact Nat.le_refl _)] at hN
      have HN2 := hide hN
      clear hN hW
      go_wp2
      go_ret
      exact ⟨by rw [← HN2.out]; rfl, rfl⟩
theorem magic_ba : (⟨#[66, 89, 78, 65, 77, 69, 48, 49]⟩ : ByteArray) = ba magicB := by decide +kernel
section
variable {S : List Int} {p n : Nat} {kd : Int} {ward : List Int}
theorem part_drop (S : List Int) (p i j : Nat) : ((S.drop p).drop i).take j = (S.drop (p + i)).take j := by rw [List.drop_drop]
theorem tell_end (h : S.length < p + 37) : tell (S.drop p) kd ward = [] := bodies_short (by rw [List.length_drop]; omega) _ _ _
theorem tell_no (hn : num ((S.drop p).take 4) = n) (h : 100000 < n ∨ S.length < p + 37 + n) : tell (S.drop p) kd ward = [] :=
 tell_none (next_none hn (by rcases h with h | h; exact .inl h; right; rw [List.length_drop]; omega) _ _)
theorem next_at (hB : Byt S) (hn : num ((S.drop p).take 4) = n) (h1 : n ≤ 100000) (h2 : p + 37 + n ≤ S.length) :
  nextR (S.drop p) kd ward = if boundB kd ((S.drop (p + 5)).take n) ward = (S.drop p).take (37 + n) then some ((S.drop (p + 5)).take n, (S.drop (p + 5 + n)).take 32) else none := by
 have h := next_iff (b := S.drop p) (fun x hx => hB x (List.mem_of_mem_drop hx)) hn h1 (by rw [List.length_drop]; omega) kd ward
 rwa [part_drop, part_drop, ← Nat.add_assoc] at h
theorem tell_not (hB : Byt S) (hn : num ((S.drop p).take 4) = n) (h1 : n ≤ 100000) (h2 : p + 37 + n ≤ S.length) (h : boundB kd ((S.drop (p + 5)).take n) ward ≠ (S.drop p).take (37 + n)) : tell (S.drop p) kd ward = [] :=
 tell_none (by rw [next_at hB hn h1 h2, if_neg h])
theorem tell_yes (hB : Byt S) (hn : num ((S.drop p).take 4) = n) (h1 : n ≤ 100000) (h2 : p + 37 + n ≤ S.length) (h : boundB kd ((S.drop (p + 5)).take n) ward = (S.drop p).take (37 + n)) :
  tell (S.drop p) kd ward = (S.drop (p + 5)).take n :: tell (S.drop (p + 120 * slabsN (n : Int))) 2 ((S.drop (p + 5 + n)).take 32) := by
 have hl : ((S.drop (p + 5)).take n).length = n := by rw [List.length_take, List.length_drop]; omega
 have h3 := tell_some (by rw [next_at hB hn h1 h2, if_pos h] : nextR (S.drop p) kd ward = some _)
 rw [hl, List.drop_drop, Nat.mul_comm] at h3
 exact h3
end
def lit (w : World) (cs : Array Value) : World := w.alloc (.cells cs 5 (cs.size, cs.size + 1))
theorem list_upto {α : Type} {p : Nat → α → Prop} : ∀ (n : Nat), (∀ i, i < n → ∃ a, p i a) → ∃ xs : List α, xs.length = n ∧ ∀ (i : Nat) (a : α), xs[i]? = some a → p i a
 | 0, _ => ⟨[], rfl, fun i a h => by simp at h⟩
 | n + 1, h => by
  obtain ⟨xs, hl, hx⟩ := list_upto n (fun i hi => h i (by omega))
  obtain ⟨a, ha⟩ := h n (by omega)
  refine ⟨xs ++ [a], by simp [hl], fun i b hb => ?_⟩
  by_cases hi : i < n
  ·rw [List.getElem?_append_left (by omega)] at hb
   exact hx i b hb
  ·rw [List.getElem?_append_right (by omega)] at hb
   have : i = n := by
    have := (List.getElem?_eq_some_iff.1 hb).1
    simp at this; omega
   subst this
   simp [hl] at hb
   subst hb
   exact ha
end Go.Proofs.YtjnpkcabkccaoaaGreat
