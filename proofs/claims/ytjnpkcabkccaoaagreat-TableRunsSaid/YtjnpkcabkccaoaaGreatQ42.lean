/- Lemmas and walks for TableRuns, packed. -/
import Derived.Test.YtjnpkcabkccaoaaGreatQ40
import Derived.Test.YtjnpkcabkccaoaaGreatQ25
import Derived.Test.YtjnpkcabkccaoaaGreatQ39
import Derived.Test.YtjnpkcabkccaoaaGreatQ30
set_option maxRecDepth 100000
set_option maxHeartbeats 16000000
namespace Go.Proofs.YtjnpkcabkccaoaaGreat
open Go.RowKit
section
def rlogCells (b : Nat) (l : LogD) (S : ByteArray) : List Value := [.pointer (some ⟨b, 0, none⟩), .int .i64 (l.half : Int), .int .i64 l.at_, .int .u64 (l.mark : Int), .string S, .bool l.ready]
structure RLogAt (w : World) (g b : Nat) (l : LogD) (S : ByteArray) : Prop where
 blk : Blk w g 65 (rlogCells b l S)
 seal_ : l.ready = true → S = ba l.ward
 len : l.ward.length = 32
 byt : Byt l.ward
 half : l.half ≤ 1
 mark : l.mark < 18446744073709551616
namespace RLogAt
variable {w w' : World} {g b : Nat} {l : LogD} {S : ByteArray}
theorem under (h : RLogAt w g b l S) (hb : Below w.heap.size w w') : RLogAt w' g b l S := ⟨h.blk.under hb, h.seal_, h.len, h.byt, h.half, h.mark⟩
theorem keep (h : RLogAt w g b l S) {F : Nat → Prop} (ho : Only F w w') (hg : ¬ F g) : RLogAt w' g b l S := ⟨ho.blk h.blk hg, h.seal_, h.len, h.byt, h.half, h.mark⟩
theorem cd (h : RLogAt w g b l S) : w.cell? ⟨g, 0, none⟩ = some (.pointer (some ⟨b, 0, none⟩)) := h.blk.c0
theorem chalf (h : RLogAt w g b l S) : w.cell? ⟨g, 1, none⟩ = some (.int .i64 (l.half : Int)) := h.blk.c1
theorem cat (h : RLogAt w g b l S) : w.cell? ⟨g, 2, none⟩ = some (.int .i64 l.at_) := h.blk.c2
theorem cmark (h : RLogAt w g b l S) : w.cell? ⟨g, 3, none⟩ = some (.int .u64 (l.mark : Int)) := h.blk.c3
theorem cseal (h : RLogAt w g b l S) : w.cell? ⟨g, 4, none⟩ = some (.string S) := h.blk.c4
theorem cready (h : RLogAt w g b l S) : w.cell? ⟨g, 5, none⟩ = some (.bool l.ready) := h.blk.c5
end RLogAt
def mkRL (parts : Array (Nat × Value)) : Sem Value := Instr.build 65 parts
theorem mkRL_fold (parts : Array (Nat × Value)) : Instr.build 65 parts = mkRL parts := rfl
theorem mkRL_open (b : Nat) (w : World) : (mkRL #[(0, .pointer (some ⟨b, 0, none⟩)), (1, .int .i64 1)]).run Tryz.prog w = .ok (.agg (rlogCells b (openAt 1) ⟨#[]⟩).toArray) w := by kernel_rfl
def StrsIn (w : World) (A : Option Addr) (n : Nat) (ss : List (List Int)) : Prop :=
 ss.length = n ∧ (∀ s ∈ ss, Byt s) ∧ (0 < n → ∃ b off : Nat, A = some ⟨b, off, none⟩ ∧ ∀ (i : Nat) (s : List Int), ss[i]? = some s → w.cell? ⟨b, off + i, none⟩ = some (.string (ba s)))
theorem StrsIn.below {w w' : World} {A : Option Addr} {n : Nat} {ss : List (List Int)} (h : StrsIn w A n ss) (hb : Below w.heap.size w w') : StrsIn w' A n ss := by
 refine ⟨h.1, h.2.1, fun hn => ?_⟩
 obtain ⟨b, off, e, hr⟩ := h.2.2 hn
 exact ⟨b, off, e, fun i s hs => cell_under hb (hr i s hs)⟩
theorem SsRow.in_ {base : Nat} {w : World} {A : Option Addr} {n c : Nat} {ss : List (List Int)} (h : SsRow base w A n c ss) : StrsIn w A n ss := ⟨h.len, h.byt, h.at_⟩
theorem strs_tail (A : Option Addr) (m c : Nat) (hm : 1 ≤ m) (hc : m ≤ c) : ∃ A' : Option Addr, (∀ w : World, (Instr.slice 81 (.slice A m c) (some (.int .i64 1)) none none).run Tryz.prog w = .ok (.slice A' (m - 1) (c - 1)) w) ∧
  (∀ w : World, (Instr.sliceAt 81 (.slice A m c) (some (.int .i64 1)) none none).run Tryz.prog w = .ok (.slice A' (m - 1) (c - 1)) w) ∧
  (∀ (w : World) (ss : List (List Int)), StrsIn w A m ss → StrsIn w A' (m - 1) ss.tail) := by
 have hel : Tryz.prog.elem 81 = 9 := by kernel_rfl
 have hu : Tryz.prog.underlying 81 = some (.slice (Tryz.prog.elem 81)) := by rw [hel]; exact Tryz.underlying81
 have hsz : (Tryz.prog.info? 9).map (·.size) = some 1 := by kernel_rfl
 have h1 : ∀ w : World, (Instr.slice 81 (.slice A m c) (some (.int .i64 1)) none none).run Tryz.prog w = .ok (.slice (if c = 1 then A else A.map (·.add 1)) (m - 1) (c - 1)) w := fun w => by
  rw [run_slice_l w _ A m c hu .i64 1 (by omega) (by omega), hel, run_size hsz w]
  by_cases h : c = 1
  ·simp [Result.andThen, sliced, h]
  ·simp [Result.andThen, sliced, h]
 refine ⟨if c = 1 then A else A.map (·.add 1), h1, fun w => ?_, fun w ss hB => ?_⟩
 ·rw [run_sliceAt_slice w _ _ _ _ _ hu]; exact h1 w
 ·refine ⟨by rw [List.length_tail, hB.1], fun s hs => hB.2.1 s (List.mem_of_mem_tail hs), fun h0 => ?_⟩
  obtain ⟨b, off, e, hr⟩ := hB.2.2 (by omega)
  subst e
  have e2 : (some ⟨b, off, none⟩ : Option Addr).map (fun x => x.add 1) = some ⟨b, off + 1, none⟩ := by simp only [Option.map_some, Addr.add_mid]
  rw [if_neg (by omega), e2]
  refine ⟨b, off + 1, rfl, fun j bs hj => ?_⟩
  have := hr (j + 1) bs (by rw [← hj, List.getElem?_tail])
  rwa [show off + (j + 1) = off + 1 + j by omega] at this
def ROpenPost (w : World) (b : Nat) (o : Nat × List (List Int)) (e : Ending) (w' : World) : Prop :=
 ∃ (g : Nat) (S X : ByteArray) (A : Option Addr) (n c : Nat), e = .returned (.tuple #[.pointer (some ⟨g, 0, none⟩), .string X, .slice A n c, .bool (decide (o.2 ≠ []))]) ∧ RLogAt w' g b (openAt o.1) S ∧ w.heap.size ≤ g ∧ g < w'.heap.size ∧ Below w.heap.size w w' ∧
  ∀ x xs, o.2 = x :: xs → X = ba x ∧ Byt x ∧ StrsIn w' A n xs ∧ n ≤ c ∧ n ≤ 3000
attribute [local go_sem ↓] mkRL_fold
attribute [local go_sem] mkRL_open
theorem rOpen_any (w : World) (b : Nat) (F : Nat → Prop) (d : Dev) (h : DocRep w b F d) (hd : DocOk d) :
  Calls Tryz.prog 27 #[.pointer (some ⟨b, 0, none⟩)] w (ROpenPost w b (openL d)) := by
 have HDO := hide hd
 have D0 := hide h
 obtain ⟨w1, hw1⟩ : ∃ z, z = w.alloc (.cells (rlogCells b (openAt 1) ⟨#[]⟩).toArray 65) := ⟨_, rfl⟩
 have B1 := hide (show Below w.heap.size w w1 by rw [hw1]; exact below_alloc (Below.refl _ _) _)
 have L1 := hide (show RLogAt w1 w.heap.size b (openAt 1) ⟨#[]⟩ from ⟨by rw [hw1]; exact Blk.new w _ _, (fun h => by cases h), rfl, (openAt_ok 1).2, Nat.le_refl _, by show 0 < 18446744073709551616; decide⟩)
 have D1 := hide (D0.out.under B1.out)
 have HOE := hide (openL_eq d)
 clear h hd
 go_enter Tryz.func27, Tryz.ntmps27
 go_wp2_with fail
 rw [← hw1]
 clear hw1
 refine (rStands_any w1 b F d 0 (by omega) D1.out HDO.out).mono ?_
 rintro e w2 ⟨Aa, na, ca, rfl, ra, b2, hna⟩
 obtain ⟨GA, hGA⟩ : ∃ G, G = (stands d 0).1 := ⟨_, rfl⟩
 obtain ⟨LA, hLA⟩ : ∃ L, L = (stands d 0).2 := ⟨_, rfl⟩
 have hoe := HOE.out
 rw [← hGA, ← hLA] at hoe
 rw [← hLA] at ra
 rw [← hGA]
 have HO2 := hide hoe
 have RA := hide ra
 have B2 := hide b2
 have D2 := hide (D1.out.under b2)
 have L2 := hide (L1.out.under b2)
 have NA := hide hna
 clear hGA hLA hoe HOE ra b2 hna
 go_wp2_with fail
 refine (rStands_any w2 b F d 1 (by omega) D2.out HDO.out).mono ?_
 rintro e w3 ⟨Ab, nb, cb, rfl, rb, b3, hnb⟩
 obtain ⟨GB, hGB⟩ : ∃ G, G = (stands d 1).1 := ⟨_, rfl⟩
 obtain ⟨LB, hLB⟩ : ∃ L, L = (stands d 1).2 := ⟨_, rfl⟩
 have hoe := HO2.out
 rw [← hGB, ← hLB] at hoe
 rw [← hLB] at rb
 rw [← hGB]
 have hla : LA.length = na := RA.out.len
 have hlb : LB.length = nb := rb.len
 rw [hla, hlb] at hoe
 have HO3 := hide hoe
 have RA3 := hide (RA.out.under b3)
 have RB3 := hide rb
 have L3 := hide (L2.out.under b3)
 have NB := hide hnb
 have B03 := hide (Below.then_ B1.out (Below.then_ B2.out b3))
 have G1 := hide (show w.heap.size < w1.heap.size from L1.out.blk.lt)
 have S12 := hide B2.out.size
 have HLAB := hide (And.intro hla hlb)
 clear hGB hLB hoe HO2 rb hla hlb hnb
 obtain ⟨B, hB⟩ : ∃ B : Bool, B = decide (0 < na ∧ (nb = 0 ∨ GB < GA)) := ⟨_, rfl⟩
 have HB := hide hB
 go_upto_region 4 with fail
 go_cut [36] (fun t w' => w' = w3 ∧ t = .bool B)
 case first =>
  by_cases h1 : 0 < na
  ·have i1 : (0 : Int) < (na : Int) := by omega
   by_cases h2 : nb = 0
   ·have e : B = true := by rw [hB]; exact decide_eq_true ⟨h1, .inl h2⟩
    subst h2
    clear hB
    go_wp2_with fail
    go_meet
    case rel => exact ⟨rfl, by rw [e]⟩
   ·have i2 : ((nb : Int) == 0) = false := by simp; omega
    by_cases h3 : GB < GA
    ·have i3 : (GB : Int) < (GA : Int) := by omega
     have e : B = true := by rw [hB]; exact decide_eq_true ⟨h1, .inr h3⟩
     clear hB
     go_wp2_with fail
     go_meet
     case rel => exact ⟨rfl, by rw [e]⟩
    ·have i3 : ¬ (GB : Int) < (GA : Int) := by omega
     have e : B = false := by rw [hB]; exact decide_eq_false (by omega)
     clear hB
     go_wp2_with fail
     go_meet
     case rel => exact ⟨rfl, by rw [e]⟩
  ·have i1 : na = 0 := by omega
   have e : B = false := by rw [hB]; exact decide_eq_false (by omega)
   subst i1
   clear hB
   go_wp2_with fail
   go_meet
   case rel => exact ⟨rfl, by rw [e]⟩
 case rest =>
  obtain ⟨rfl, rfl⟩ := hcut
  clear hB
  cases hC : B with
  | true =>
   have hc := of_decide_eq_true (HB.out.symm.trans hC)
   have HOP := hide (show openL d = (0, LA) by rw [HO3.out, if_pos hc])
   have HCI := hide hc.1
   have f1 := L3.out.blk.frozen 1
   have c1 := L3.out.chalf
   obtain ⟨w4, hw4⟩ : ∃ z, z = wc.setCell ⟨w.heap.size, 1, none⟩ (.int .i64 0) := ⟨_, rfl⟩
   have O4 := hide (show Only (fun i => i = w.heap.size) wc w4 by rw [hw4]; exact Only.cell1 wc w.heap.size 1 _)
   have L4 := hide (show RLogAt w4 w.heap.size b (openAt 0) ⟨#[]⟩ from ⟨by rw [hw4]; exact L3.out.blk.set_ 1 (.int .i64 0), (fun h => by cases h), rfl, (openAt_ok 0).2, Nat.zero_le _, by show 0 < 18446744073709551616; decide⟩)
   have RX := hide (RA3.out.only O4.out (fun g hg h => by have h9 : g = w.heap.size := h; have := (RA3.out.row.lt g hg).1; have := G1.out; omega))
   have B04 := hide (O4.out.under B03.out fun i hi => by have h9 : i = w.heap.size := hi; omega)
   have NX := hide NA.out
   clear HO3 hc
   go_wp2_with fail
   rw [← hw4]
   clear hw4 f1 c1
   obtain ⟨x0, xs0, hv⟩ : ∃ x0 xs0, LA = x0 :: xs0 := by
    cases h9 : LA with
    | nil => have h8 := RX.out.len; rw [h9] at h8; have := HCI.out; simp at h8; omega
    | cons a l => exact ⟨a, l, rfl⟩
   subst hv
   have i9 : (0 : Int) < (na : Int) := by have := HCI.out; omega
   have i8 : 0 < na := HCI.out
   obtain ⟨rb, off, hA, hrow⟩ := RX.out.at_ HCI.out
   have C0 := hide (show w4.cell? ⟨rb, off, none⟩ = some (.string (ba x0)) from hrow 0 x0 rfl)
   obtain ⟨A8, hs8, hs8a, hB8⟩ := strs_tail Aa na ca HCI.out RX.out.cap
   have HB8 := hide hB8
   have HCN := hide RX.out.cap
   have RI := hide RX.out.in_
   obtain ⟨X0, hX0⟩ : ∃ X, X = ba x0 := ⟨_, rfl⟩
   have HX0 := hide hX0
   rw [← hX0] at C0
   clear hB8 hrow hX0 RX
   subst hA
   refine wp_region_held_drew (S := fun w' => w'.cell? ⟨rb, off, none⟩ = some (.string X0)) (by kernel_rfl) (cell_under (Below.refl _ w4).drew C0.out) (fun hSO60 => ?_)
   obtain ⟨w4d, hwO6⟩ : ∃ x, x = w4.drew := ⟨_, rfl⟩
   rw [← hwO6] at hSO60 ⊢
   have Bd := hide (show Below w4.heap.size w4 w4d by rw [hwO6]; exact (Below.refl _ w4).drew)
   clear hwO6
   refine tq 0 rfl hSO60 ?_
   refine tq 1 rfl hSO60 ?_
   refine tq 2 rfl hSO60 ?_
   (refine tq 3 rfl hSO60 ?_ (fun w' hSw => by have z3 : w'.cell? ⟨rb, off, none⟩ = some (.string X0) := hSw; go_simp; try with_reducible rfl))
   refine tq 4 rfl hSO60 ?_
   refine tq 5 rfl hSO60 ?_
   refine tq 6 rfl hSO60 ?_
   refine tq 7 rfl hSO60 ?_
   refine tq 8 rfl hSO60 ?_
   refine tq 9 rfl hSO60 ?_
   refine wpAnyH_done (by kernel_rfl) ?_ _
   go_wp2_with fail
   refine bodyPost_ret (results_tmp4 rfl _ _) rfl ⟨w.heap.size, ⟨#[]⟩, X0, A8, na - 1, ca - 1, by rw [HOP.out]; rfl, by rw [HOP.out]; exact L4.out.under Bd.out, Nat.le_refl _, by have := (L4.out.under Bd.out).blk.lt; exact this, Below.then_ B04.out Bd.out, fun x xs hx => ?_⟩
   rw [HOP.out] at hx
   injection hx with h1 h2
   subst h1; subst h2
   have h9 := HB8.out w4d _ (RI.out.below Bd.out)
   exact ⟨HX0.out, RI.out.2.1 _ (by simp), h9, by have := HCN.out; omega, by have := NX.out; omega⟩
  | false =>
   have hc := of_decide_eq_false (HB.out.symm.trans hC)
   have HOP := hide (show openL d = (1, LB) by rw [HO3.out, if_neg hc])
   clear HO3
   by_cases h0 : nb = 0
   ·have i0 : ¬ (0 : Int) < (nb : Int) := by omega
    have HE := hide (show LB = [] from List.eq_nil_of_length_eq_zero (HLAB.out.2.trans h0))
    go_wp2_with fail
    refine bodyPost_ret (results_tmp4 rfl _ _) rfl ⟨w.heap.size, ⟨#[]⟩, ⟨#[]⟩, none, 0, 0, by rw [HOP.out, HE.out]; rfl, by rw [HOP.out]; exact L3.out, Nat.le_refl _, L3.out.blk.lt, B03.out, fun x xs hx => ?_⟩
    rw [HOP.out] at hx
    rw [show (1, LB).2 = LB from rfl, HE.out] at hx
    cases hx
   ·have i0 : (0 : Int) < (nb : Int) := by omega
    have HCI := hide (show 0 < nb by omega)
    have L4 := hide L3.out
    have RX := hide RB3.out
    have B04 := hide B03.out
    have NX := hide NB.out
    obtain ⟨w4, hw4⟩ : ∃ z, z = wc := ⟨_, rfl⟩
    clear h0 hc
    go_wp2_with fail
    rw [← hw4] at L4 RX B04 ⊢
    clear hw4
    obtain ⟨x0, xs0, hv⟩ : ∃ x0 xs0, LB = x0 :: xs0 := by
     cases h9 : LB with
     | nil => have h8 := RX.out.len; rw [h9] at h8; have := HCI.out; simp at h8; omega
     | cons a l => exact ⟨a, l, rfl⟩
    subst hv
    have i9 : (0 : Int) < (nb : Int) := by have := HCI.out; omega
    have i8 : 0 < nb := HCI.out
    obtain ⟨rb, off, hA, hrow⟩ := RX.out.at_ HCI.out
    have C0 := hide (show w4.cell? ⟨rb, off, none⟩ = some (.string (ba x0)) from hrow 0 x0 rfl)
    obtain ⟨A8, hs8, hs8a, hB8⟩ := strs_tail Ab nb cb HCI.out RX.out.cap
    have HB8 := hide hB8
    have HCN := hide RX.out.cap
    have RI := hide RX.out.in_
    obtain ⟨X0, hX0⟩ : ∃ X, X = ba x0 := ⟨_, rfl⟩
    have HX0 := hide hX0
    rw [← hX0] at C0
    clear hB8 hrow hX0 RX
    subst hA
    refine wp_region_held_drew (S := fun w' => w'.cell? ⟨rb, off, none⟩ = some (.string X0)) (by kernel_rfl) (cell_under (Below.refl _ w4).drew C0.out) (fun hSO80 => ?_)
    obtain ⟨w4d, hwO8⟩ : ∃ x, x = w4.drew := ⟨_, rfl⟩
    rw [← hwO8] at hSO80 ⊢
    have Bd := hide (show Below w4.heap.size w4 w4d by rw [hwO8]; exact (Below.refl _ w4).drew)
    clear hwO8
    refine tq 0 rfl hSO80 ?_
    refine tq 1 rfl hSO80 ?_
    refine tq 2 rfl hSO80 ?_
    (refine tq 3 rfl hSO80 ?_ (fun w' hSw => by have z3 : w'.cell? ⟨rb, off, none⟩ = some (.string X0) := hSw; go_simp; try with_reducible rfl))
    refine tq 4 rfl hSO80 ?_
    refine tq 5 rfl hSO80 ?_
    refine tq 6 rfl hSO80 ?_
    refine tq 7 rfl hSO80 ?_
    refine tq 8 rfl hSO80 ?_
    refine tq 9 rfl hSO80 ?_
    refine wpAnyH_done (by kernel_rfl) ?_ _
    go_wp2_with fail
    refine bodyPost_ret (results_tmp4 rfl _ _) rfl ⟨w.heap.size, ⟨#[]⟩, X0, A8, nb - 1, cb - 1, by rw [HOP.out]; rfl, by rw [HOP.out]; exact L4.out.under Bd.out, Nat.le_refl _, by have := (L4.out.under Bd.out).blk.lt; exact this, Below.then_ B04.out Bd.out, fun x xs hx => ?_⟩
    rw [HOP.out] at hx
    injection hx with h1 h2
    subst h1; subst h2
    have h9 := HB8.out w4d _ (RI.out.below Bd.out)
    exact ⟨HX0.out, RI.out.2.1 _ (by simp), h9, by have := HCN.out; omega, by have := NX.out; omega⟩
end
theorem writeC_ok (mark : Nat) : ∀ (cs : List (List Int)) (d : Dev) (pos : Int), d.Ok → (writeC d pos mark cs).1.Ok
 | [], _, _, h => h
 | c :: l, d, pos, h => by
  rw [writeC_cons]
  split
  ·exact h.write _ _
  ·exact writeC_ok mark l _ _ (h.write _ _)
theorem chunks_take1 {bs : List Int} {k : Nat} (h : k < (bs.length + 119) / 120) : (chunks bs).take (k + 1) = (chunks bs).take k ++ [(bs.drop (k * 120)).take 120] := by
 rw [List.take_add_one, chunks_get bs k h]; rfl
def SoFar (d : Dev) (pos : Int) (mark : Nat) (bs : List Int) (k : Nat) (d' : Dev) : Prop := writeC d pos mark ((chunks bs).take k) = (d', 0)
theorem SoFar.next {d d' : Dev} {pos : Int} {mark k : Nat} {bs : List Int} (h : SoFar d pos mark bs k d') (hk : k < (bs.length + 119) / 120) :
  writeC d pos mark ((chunks bs).take (k + 1)) = d'.write (pos + (k : Int)) (slabOf ((bs.drop (k * 120)).take 120) mark) := by
 have hl : ((chunks bs).take k).length = k := by rw [List.length_take, chunks_count]; omega
 have h1 : writeC d pos mark ((chunks bs).take k) = (d', 0) := h
 rw [chunks_take1 hk, writeC_app mark _ _ _ _ (by rw [h1]), h1, hl]
theorem SoFar.bad {d d' : Dev} {pos : Int} {mark k : Nat} {bs : List Int} (h : SoFar d pos mark bs k d') (hk : k < (bs.length + 119) / 120) (he : (d'.write (pos + (k : Int)) (slabOf ((bs.drop (k * 120)).take 120) mark)).2 ≠ 0) :
  writeC d pos mark (chunks bs) = d'.write (pos + (k : Int)) (slabOf ((bs.drop (k * 120)).take 120) mark) := by
 have h1 := h.next hk
 have h2 := writeC_stop mark ((chunks bs).take (k + 1)) ((chunks bs).drop (k + 1)) d pos (by rw [h1]; exact he)
 rwa [List.take_append_drop, h1] at h2
theorem SoFar.all {d d' : Dev} {pos : Int} {mark k : Nat} {bs : List Int} (h : SoFar d pos mark bs k d') (hk : (bs.length + 119) / 120 ≤ k) : writeC d pos mark (chunks bs) = (d', 0) := by
 have h1 : writeC d pos mark ((chunks bs).take k) = (d', 0) := h
 rwa [List.take_of_length_le (by rw [chunks_count]; exact hk)] at h1
theorem SoFar.grew {d d' : Dev} {pos : Int} {mark k : Nat} {bs : List Int} (h : SoFar d pos mark bs k d') (hb : Byt bs) (hd : d.Bytes) (ho : d.Ok) (hl : bs.length ≤ 100200) : d'.Bytes ∧ d'.Ok ∧ d'.kept.length = d.kept.length ∧ d'.written.length ≤ d.written.length + 836 := by
 have h1 : writeC d pos mark ((chunks bs).take k) = (d', 0) := h
 have hcb : ∀ c ∈ (chunks bs).take k, Byt c := fun c hc => chunks_byt hb c (List.mem_of_mem_take hc)
 have e : d' = (writeC d pos mark ((chunks bs).take k)).1 := by rw [h1]
 rw [e]
 refine ⟨writeC_bytes mark _ d _ hd hcb, writeC_ok mark _ d _ ho, writeC_kept mark _ d _, ?_⟩
 have h2 := writeC_many mark ((chunks bs).take k) d pos
 have h3 : ((chunks bs).take k).length ≤ 836 := by rw [List.length_take, chunks_count]; omega
 omega
theorem wrap_pos (P : Nat) (at_ pos : Int) (hP : (P : Int) ≤ 2048) (h0 : 0 ≤ at_) (h9 : at_ ≤ 10000) (e : pos = (P : Int) + at_) : IntKind.i64.wrap ((P : Int) + at_) = pos ∧ 0 ≤ pos ∧ pos ≤ 12100 := by
 rw [IntKind.wrap_i64]; omega
theorem rwrite_any (w : World) (g b : Nat) (F : Nat → Prop) (d : Dev) (l : LogD) (SE : ByteArray) (half : Nat) (at_ : Int) (bs : List Int) (mark : Nat) (hL : RLogAt w g b l SE) (h : DocRep w b F d) (hdb : d.Bytes) (hdo : d.Ok) (hgF : ¬ F g) (hB : Byt bs) (hn : bs.length ≤ 100200) (hh : half ≤ 1) (ha : 0 ≤ at_) (ha9 : at_ ≤ 10000) (hm : mark < 18446744073709551616) (hw : d.written.length ≤ 800000) :
  Calls Tryz.prog 61 #[.pointer (some ⟨g, 0, none⟩), .int .i64 (half : Int), .int .i64 at_, .string (ba bs), .int .u64 (mark : Int)] w (DocPost w b F (writeL d half at_ bs mark).1 (.int .i64 (writeL d half at_ bs mark).2)) := by
 obtain ⟨n, hn'⟩ : ∃ n, n = bs.length := ⟨_, rfl⟩
 obtain ⟨X, hX⟩ : ∃ X, X = ba bs := ⟨_, rfl⟩
 have xs : X.size = n := by rw [hX, ba_size, hn']
 have HXX := hide hX
 have HNN := hide hn'
 have HN := hide (show n ≤ 100200 by rw [hn']; exact hn)
 have n9 : (n : Int) ≤ 100200 := by rw [hn']; omega
 have n0 : (0 : Int) ≤ (n : Int) := by omega
 have D0 := hide h
 have L0 := hide hL
 have HG := hide (show ¬ F g ∧ g < w.heap.size from ⟨hgF, hL.blk.lt⟩)
 have HB := hide hB
 have HDD := hide (And.intro hdb hdo)
 have HW := hide hw
 have HM := hide (show (mark : Int) < 18446744073709551616 by omega)
 obtain ⟨R, hRR⟩ : ∃ R, R = d.room := ⟨_, rfl⟩
 have hR : R ≤ 2048 := by have := h.good.few; rw [hRR]; unfold Dev.room; omega
 have HRR := hide hRR
 obtain ⟨P, hP⟩ : ∃ P, P = half * R := ⟨_, rfl⟩
 have hP9 : (P : Int) ≤ 2048 := by
  obtain rfl | rfl : half = 0 ∨ half = 1 := by omega
  ·rw [hP]; simp
  ·rw [hP]; simp; omega
 have hP0 : (0 : Int) ≤ (P : Int) := by omega
 have hPw : RowKit.wrap64 ((half : Int) * (R : Int)) = (P : Int) := by
  rw [half_room, ← hP, ← IntWalk.i64_left, IntKind.wrap_i64]; omega
 have hPv : IntKind.i64.wrap ((half : Int) * (R : Int)) = (P : Int) := by rw [← hPw, IntWalk.i64_left]
 have hpos : ((half : Int) * (d.room : Int) + at_) = (P : Int) + at_ := by rw [hP, hRR]; simp
 obtain ⟨pos, hps⟩ : ∃ p : Int, p = (P : Int) + at_ := ⟨_, rfl⟩
 obtain ⟨w12, hp0, hp9⟩ := wrap_pos P at_ pos hP9 ha ha9 hps
 have HE := hide (show writeL d half at_ bs mark = writeC d pos mark (chunks bs) by rw [writeL, hpos, hps])
 have HP9 := hide (And.intro hp0 hp9)
 rw [← hX]
 clear hL h hdb hdo hgF hB hn hw hm hRR hP hps hpos hX hn' hh hR hP9 hP0 hp0 hp9
 go_enter Tryz.func61, Tryz.ntmps61
 go_wp2_with fail
 go_loopw [11] (fun iv ws => ∃ (k : Nat) (d' : Dev) (F' : Nat → Prop), k ≤ 836 ∧ iv = .int .i64 (120 * (k : Int)) ∧ SoFar d pos mark bs k d' ∧ DocRep ws b F' d' ∧ (∀ i, F' i → F i ∨ w.heap.size ≤ i) ∧ Only F w ws) (fun iv _ => 100440 - (intOf iv).toNat)
 case atStart => exact ⟨0, d, F, by omega, rfl, rfl, D0.out, fun i hi => .inl hi, Only.refl _ _⟩
 case round =>
  obtain ⟨k, d', F', hk, rfl, hs, hD, hF, ho⟩ := hrel
  have KK := hide hk
  have SF := hide hs
  have DR := hide hD
  have FF := hide hF
  have OW := hide ho
  have LR := hide (L0.out.keep ho HG.out.1)
  have GR := hide (hs.grew HB.out HDD.out.1 HDD.out.2 (by rw [← HNN.out]; exact HN.out))
  have NG := hide (show ¬ F' g from fun hf => by
   rcases hF g hf with h9 | h9
   ·exact HG.out.1 h9
   ·have := HG.out.2; omega)
  have HRD := hide (show d'.room = R by rw [HRR.out, Dev.room, Dev.room, GR.out.2.2.1])
  obtain ⟨q, hq⟩ : ∃ q : Int, q = 120 * (k : Int) := ⟨_, rfl⟩
  have HQ := hide hq
  have q0 : 0 ≤ q := by omega
  have q9 : q ≤ 100320 := by omega
  have q5 : q.tdiv 120 = (k : Int) := by rw [Int.tdiv_eq_ediv_of_nonneg q0, hq]; omega
  have wk : IntKind.i64.wrap (k : Int) = (k : Int) := by rw [IntKind.wrap_i64]; omega
  have wpk : IntKind.i64.wrap (pos + (k : Int)) = pos + (k : Int) := by rw [IntKind.wrap_i64]; have := HP9.out; omega
  rw [← hq]
  clear hk hs hD hF ho
  by_cases hlt : 120 * k < n
  ·have i1 : q < (n : Int) := by omega
   have hsl := fun w => str_from bs (120 * k) (by rw [← HNN.out]; omega) w
   obtain ⟨Y, hY⟩ : ∃ Y, Y = ba (bs.drop (120 * k)) := ⟨_, rfl⟩
   have HY := hide hY
   rw [← HXX.out, ← hY, show ((120 * k : Nat) : Int) = q by rw [hq]; simp] at hsl
   have HK := hide (show k < (bs.length + 119) / 120 ∧ 120 * k < n by rw [← HNN.out]; omega)
   have C0 := hide LR.out.cd
   obtain ⟨c, hc⟩ : ∃ c, c = (bs.drop (k * 120)).take 120 := ⟨_, rfl⟩
   have HC := hide hc
   have HCL := hide (show (slabOf c mark).length = 128 from slabOf_len (by rw [hc, List.length_take]; omega) mark)
   clear hY hlt hc hq
   go_wp2_with fail
   refine wp_region_held_drew (S := fun w' => w'.cell? ⟨g, 0, none⟩ = some (.pointer (some ⟨b, 0, none⟩))) (by kernel_rfl) (cell_under (Below.refl _ wr).drew C0.out) (fun hSW0 => ?_)
   obtain ⟨wrd, hwW⟩ : ∃ x, x = wr.drew := ⟨_, rfl⟩
   rw [← hwW] at hSW0 ⊢
   have BD := hide (show Below wr.heap.size wr wrd by rw [hwW]; exact (Below.refl _ wr).drew)
   clear hwW
   refine tq 0 rfl hSW0 ?_
   refine tq 1 rfl hSW0 ?_
   refine tq 2 rfl hSW0 ?_
   (refine tq 3 rfl hSW0 ?_ (fun w' hSw => by have z3 : w'.cell? ⟨g, 0, none⟩ = some (.pointer (some ⟨b, 0, none⟩)) := hSw; go_simp; try with_reducible rfl))
   refine tq 4 rfl hSW0 ?_
   refine tq 5 rfl hSW0 ?_
   refine tq 6 rfl hSW0 ?_
   refine tq 7 rfl hSW0 ?_
   (refine tq 8 rfl hSW0 ?_ (fun w' hSw => by have z8 : w'.cell? ⟨g, 0, none⟩ = some (.pointer (some ⟨b, 0, none⟩)) := hSw; go_simp; try with_reducible rfl))
   refine tq 11 rfl hSW0 ?_
   refine tq 13 rfl hSW0 ?_
   refine tq 14 rfl hSW0 ?_
   refine tq 16 rfl hSW0 ?_
   refine tq 17 rfl hSW0 ?_
   (refine tq 18 rfl hSW0 ?_ (fun w' hSw => by have z18 := hsl w'; go_simp; try with_reducible rfl))
   refine tq 19 rfl hSW0 ?_
   refine ry 9 rfl fun K hK => ?_
   go_simp
   refine (rHalf_any wrd b F' d' (DR.out.under BD.out)).mono ?_
   rintro e wz ⟨rfl, hwz⟩
   rw [hwz, HRD.out]
   clear hwz
   go_simp
   refine hK.out _ _ (hSW0) (fun hSW1 => ?_)
   clear hK K
   refine tq 10 rfl hSW1 ?_
   refine tq 12 rfl hSW1 ?_
   refine tq 15 rfl hSW1 ?_
   refine ry 20 rfl fun K hK => ?_
   go_simp
   rw [HY.out]
   refine (rSlab_any wrd (bs.drop (120 * k)) (fun x hx => HB.out x (List.mem_of_mem_drop hx)) (by rw [List.length_drop]; have := HN.out; have := HNN.out; omega) mark HM.out).mono ?_
   rintro e wS ⟨rfl, bS⟩
   rw [show (bs.drop (120 * k)).take 120 = c by rw [HC.out, Nat.mul_comm]]
   have BS := hide (Below.then_ BD.out bS)
   have hcS := cell_under bS hSW1
   clear bS
   go_simp
   refine hK.out _ _ (hcS) (fun hSW2 => ?_)
   clear hK K
   refine ry 21 rfl fun K hK => ?_
   go_simp
   refine (docwrite_any wS b F' d' (pos + (k : Int)) (slabOf c mark) (DR.out.under BS.out) HCL.out (by have := GR.out.2.2.2; have := HW.out; omega)).mono ?_
   rintro e wW ⟨rfl, F2, hD2, o2, hF2⟩
   have D2 := hide hD2
   have O2 := hide o2
   have FF2 := hide hF2
   have hcW := (LR.out.under BS.out).keep o2 NG.out |>.cd
   clear hD2 o2 hF2
   go_simp
   refine hK.out _ _ (hcW) (fun hSW3 => ?_)
   clear hK K
   refine tq 22 rfl hSW3 ?_
   refine wpAnyH_done (by kernel_rfl) ?_ _
   obtain ⟨d2, e2, he2⟩ : ∃ d2 e2, d'.write (pos + (k : Int)) (slabOf c mark) = (d2, e2) := ⟨_, _, rfl⟩
   have HE2 := hide he2
   rw [he2] at D2 ⊢
   simp only at D2 ⊢
   have FW := hide (show ∀ i, F2 i → F i ∨ w.heap.size ≤ i from fun i hi => by
    rcases FF2.out i hi with h9 | h9
    ·exact FF.out i h9
    ·right; have h8 := OW.out.size; have h7 := BS.out.size; omega)
   have OO := hide (show Only F w wW from (OW.out.trans (Only.of_below BS.out (fun _ => False)) (fun _ _ h => h.elim)).trans O2.out (fun i hi hf => by
    rcases FF.out i hf with h9 | h9
    ·exact h9
    ·omega))
   clear he2
   by_cases h0 : e2 = 0
   ·subst h0
    have HNX := hide (show SoFar d pos mark bs (k + 1) d2 by rw [SoFar, SF.out.next HK.out.1, ← HC.out]; exact HE2.out)
    have wq : IntKind.i64.wrap (q + 120) = q + 120 := by rw [IntKind.wrap_i64]; omega
    go_wp2_with fail
    exact ⟨⟨k + 1, d2, F2, by have := HK.out.2; have := HN.out; omega, by rw [HQ.out]; first | rfl | (congr 1; omega) | (simp; omega), HNX.out, D2.out, FW.out, OO.out⟩, by have h1 := HQ.out; have h2 := HK.out.2; have h3 := HN.out; simp [intOf]; omega⟩
   ·have e1 : (e2 != 0) = true := by simpa using h0
    have HBD := hide (show writeC d pos mark (chunks bs) = (d2, e2) by rw [SF.out.bad HK.out.1 (by rw [← HC.out, HE2.out]; exact h0), ← HC.out]; exact HE2.out)
    clear h0
    go_wp2_with fail
    go_ret
    rw [HE.out, HBD.out]
    exact ⟨rfl, F2, D2.out, OO.out, FW.out⟩
  ·have i1 : ¬ q < (n : Int) := by omega
   have HFIN := hide (SF.out.all (by rw [← HNN.out]; omega))
   clear hlt hq
   go_wp2_with fail
   go_ret
   rw [HE.out, HFIN.out]
   exact ⟨rfl, F', DR.out, OW.out, FF.out⟩
end Go.Proofs.YtjnpkcabkccaoaaGreat
