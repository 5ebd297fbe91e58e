/- Lemmas and walks for TableRuns, packed. -/
import Derived.Test.YtjnpkcabkccaoaaGreatQ31
import Derived.Test.YtjnpkcabkccaoaaGreatQ30
import Derived.Test.YtjnpkcabkccaoaaGreatQ10
set_option maxRecDepth 100000
set_option maxHeartbeats 16000000
namespace Go.Proofs.YtjnpkcabkccaoaaGreat
open Go.RowKit
section
attribute [local go_sem ↓] loadPr_fold
theorem Search_any (w : World) (A : Option Addr) (n c : Nat) (xs : List PairV) (q : PairV) (hX : PairsIn w A n xs) (hq : q.Fine w) (hn : n ≤ 1000000000000) (hs : Sorted (xs.map PairV.d)) :
  Calls Tryz.prog 73 #[.slice A n c, .agg q.cells.toArray, .func (.func 64) #[] #[]] w
   fun e w' => e = .returned (.tuple #[.int .i64 (placeP (xs.map PairV.d) q.key : Int), .bool (foundP (xs.map PairV.d) q.key)]) ∧ Below w.heap.size w w' := by
 have n9 : (n : Int) ≤ 1000000000000 := by omega
 obtain ⟨L, hL⟩ : ∃ L, L = xs.map PairV.d := ⟨_, rfl⟩
 have HL := hide hL
 rw [← hL] at hs ⊢
 have HLN := hide (show L.length = n by rw [hL, List.length_map, hX.1])
 obtain ⟨P, hP⟩ : ∃ P, P = placeP L q.key := ⟨_, rfl⟩
 have HP := hide hP
 have HPN := hide (show P ≤ n by rw [hP, ← HLN.out]; exact placeP_le _ _)
 have HLT := hide (fun (j : Nat) (x : PairV) (hj : xs[j]? = some x) => (show lex x.key q.key < 0 ↔ j < P by
  have := placeP_lt (f := q.key) hs j x.d (by rw [hL]; exact pmap_get hj)
  rw [hP]; exact this))
 have HFD := hide (show foundP L q.key = match L[P]? with | none => false | some p => decide (lex p.key q.key = 0) by rw [hP]; rfl)
 rw [← hP]
 obtain ⟨w1, hw1⟩ : ∃ z, z = w.alloc (.cells q.cells.toArray 59) := ⟨_, rfl⟩
 have B1 := hide (show Below w.heap.size w w1 by rw [hw1]; exact below_alloc (Below.refl _ _) _)
 have K1 := hide (show Blk w1 w.heap.size 59 q.cells by rw [hw1]; exact Blk.new w _ _)
 have X1 := hide (hX.below' B1.out)
 have Q1 := hide (hq.below B1.out)
 have hw1' : w.alloc (.cells q.cells.toArray 59) = w1 := hw1.symm
 clear hX hq hn hs hL hP hw1
 go_enter Tryz.func73, Tryz.ntmps73
 go_wp2_with fail
 try rw [hw1']
 clear hw1'
 go_loopw [9, 10] (fun i j wr => ∃ lo hi : Nat, i = .int .i64 (lo : Int) ∧ j = .int .i64 (hi : Int) ∧ lo ≤ P ∧ P ≤ hi ∧ hi ≤ n ∧ Below w1.heap.size w1 wr) (fun i j _ => (intOf j).toNat - (intOf i).toNat)
 case atStart => exact ⟨0, n, rfl, rfl, Nat.zero_le _, HPN.out, Nat.le_refl _, Below.refl _ _⟩
 case round =>
  obtain ⟨lo, hi, rfl, rfl, h1, h2, h3, hb⟩ := hrel
  have HB := hide hb
  have XR := hide (X1.out.below' hb)
  have QR := hide (Q1.out.below hb)
  have KR := hide (K1.out.under hb)
  by_cases hlt : lo < hi
  ·obtain ⟨pb, off, hpa, hrow⟩ := XR.out.2.2 (by omega)
   subst hpa
   obtain ⟨mid, hmid⟩ : ∃ mid, mid = (lo + hi) / 2 := ⟨_, rfl⟩
   have HMID := hide (show lo ≤ mid ∧ mid < hi by omega)
   obtain ⟨x, hx⟩ : ∃ x, xs[mid]? = some x := ⟨_, List.getElem?_eq_getElem (by rw [XR.out.1]; omega)⟩
   have XF := hide (XR.out.2.1 x (List.mem_of_getElem? hx))
   have HROW := hide (hrow mid x hx)
   have HCM := hide (HLT.out mid x hx)
   have HH := hide (show lo ≤ P ∧ P ≤ hi ∧ hi ≤ n from ⟨h1, h2, h3⟩)
   have l0 : (0 : Int) ≤ (lo : Int) := by omega
   have i0 : (0 : Int) ≤ (hi : Int) := by omega
   have i1 : (lo : Int) < (hi : Int) := by omega
   have i2 : (hi : Int) ≤ (n : Int) := by omega
   have e2 : ((lo : Int) + (hi : Int)) / 2 = (mid : Int) := by omega
   have m0 : (0 : Int) ≤ (mid : Int) := by omega
   have m1 : (mid : Int) < (n : Int) := by omega
   clear hx hrow h1 h2 h3 hb hmid hlt
   go_wp2_with fail
   refine wp_region_held_drew (S := fun w' => Below wr.heap.size wr w') (by kernel_rfl) ((Below.refl _ _).drew) (fun hSA0 => ?_)
   obtain ⟨wrd, hwA⟩ : ∃ x, x = wr.drew := ⟨_, rfl⟩
   rw [← hwA] at hSA0 ⊢
   clear hwA
   refine tq 0 rfl hSA0 ?_
   refine tq 1 rfl hSA0 ?_
   refine tq 2 rfl hSA0 ?_
   refine tq 3 rfl hSA0 ?_
   (refine tq 4 rfl hSA0 ?_ (fun w' hSw => by have z := loadPr_run w' pb (off + mid * 3) x (range_under HROW.out hSw); go_simp; try with_reducible rfl))
   (refine tq 5 rfl hSA0 ?_ (fun w' hSw => by have z := loadPr_run w' w.heap.size 0 q (KR.out.under hSw).whole; go_simp; try with_reducible rfl))
   refine ry 6 rfl fun K hK => ?_
   go_simp
   refine (byKey_any wrd x q (XF.out.below hSA0) (QR.out.below hSA0)).mono ?_
   rintro e w5 ⟨rfl, b5⟩
   go_simp
   refine hK.out _ _ (Below.then_ hSA0 b5) (fun hSA1 => ?_)
   clear hK K
   refine tq 7 rfl hSA1 ?_
   refine wpAnyH_done (by kernel_rfl) ?_ _
   by_cases hc : lex x.key q.key < 0
   ·have dc : decide (lex x.key q.key < 0) = true := decide_eq_true hc
    have HC := hide (HCM.out.1 hc)
    go_wp2_with fail
    exact ⟨⟨mid + 1, hi, by go_num, rfl, by have := HC.out; omega, HH.out.2.1, HH.out.2.2, Below.then_ HB.out hSA1⟩, by have := HMID.out; simp [intOf]; omega⟩
   ·have dc : decide (lex x.key q.key < 0) = false := decide_eq_false hc
    have HC := hide (show ¬ mid < P from fun h9 => hc (HCM.out.2 h9))
    go_wp2_with fail
    exact ⟨⟨lo, mid, rfl, rfl, HH.out.1, by have := HC.out; omega, by have := HH.out; have := HMID.out; omega, Below.then_ HB.out hSA1⟩, by have := HMID.out; simp [intOf]; omega⟩
  ·have HE := hide (show lo = P ∧ hi = P by omega)
   have i1 : ¬ (lo : Int) < (hi : Int) := by omega
   clear h1 h2 h3 hb hlt
   rcases Nat.lt_or_ge P n with hp | hp
   ·obtain ⟨pb, off, hpa, hrow⟩ := XR.out.2.2 (by omega)
    subst hpa
    obtain ⟨x, hx⟩ : ∃ x, xs[P]? = some x := ⟨_, List.getElem?_eq_getElem (by rw [XR.out.1]; omega)⟩
    have XF := hide (XR.out.2.1 x (List.mem_of_getElem? hx))
    have HROW := hide (hrow P x hx)
    have FD := hide (show foundP L q.key = decide (lex x.key q.key = 0) by rw [HFD.out, HL.out, pmap_get hx]; rfl)
    have l0 : (0 : Int) ≤ (lo : Int) := by omega
    have l1 : lo < n := by have := HE.out.1; omega
    have l2 : (lo : Int) < (n : Int) := by omega
    clear hx hrow hp
    have HROWl := hide (show wr.rangeAt pb (off + lo * 3) x.cells by have := HE.out.1; subst this; exact HROW.out)
    go_wp2_with fail
    refine wp_region_held_drew (S := fun w' => Below wr.heap.size wr w') (by kernel_rfl) ((Below.refl _ _).drew) (fun hSB0 => ?_)
    obtain ⟨wrd, hwB⟩ : ∃ x, x = wr.drew := ⟨_, rfl⟩
    rw [← hwB] at hSB0 ⊢
    clear hwB
    refine tq 0 rfl hSB0 ?_
    refine tq 1 rfl hSB0 ?_
    refine tq 2 rfl hSB0 ?_
    refine tq 3 rfl hSB0 ?_
    refine tq 4 rfl hSB0 ?_
    refine tq 5 rfl hSB0 ?_
    refine tq 6 rfl hSB0 ?_
    refine tq 7 rfl hSB0 ?_
    refine tq 8 rfl hSB0 ?_
    (refine tq 9 rfl hSB0 ?_ (fun w' hSw => by have z := loadPr_run w' pb (off + lo * 3) x (range_under HROWl.out hSw); go_simp; try with_reducible rfl))
    (refine tq 10 rfl hSB0 ?_ (fun w' hSw => by have z := loadPr_run w' w.heap.size 0 q (KR.out.under hSw).whole; go_simp; try with_reducible rfl))
    refine ry 11 rfl fun K hK => ?_
    go_simp
    refine (byKey_any wrd x q (XF.out.below hSB0) (QR.out.below hSB0)).mono ?_
    rintro e w5 ⟨rfl, b5⟩
    go_simp
    refine hK.out _ _ (Below.then_ hSB0 b5) (fun hSB1 => ?_)
    clear hK K
    refine tq 12 rfl hSB1 ?_
    refine tq 13 rfl hSB1 ?_
    refine tq 14 rfl hSB1 ?_
    refine tq 15 rfl hSB1 ?_
    refine wpAnyH_done (by kernel_rfl) ?_ _
    go_wp2_with fail
    go_ret2
    exact ⟨by rw [FD.out, HE.out.1]; first | rfl | (congr 3; rw [Bool.eq_iff_iff]; simp) | (simp; done), Below.then_ B1.out (Below.then_ HB.out hSB1)⟩
   ·have FD := hide (show foundP L q.key = false by rw [HFD.out, List.getElem?_eq_none (by rw [HLN.out]; exact hp)])
    have l0 : (0 : Int) ≤ (lo : Int) := by omega
    have l1 : ¬ lo < n := by have := HE.out.1; omega
    have l2 : ¬ (lo : Int) < (n : Int) := by omega
    clear hp
    go_wp2_with fail
    refine wp_region_held_drew (S := fun w' => Below wr.heap.size wr w') (by kernel_rfl) ((Below.refl _ _).drew) (fun hSC0 => ?_)
    obtain ⟨wrd, hwC⟩ : ∃ x, x = wr.drew := ⟨_, rfl⟩
    rw [← hwC] at hSC0 ⊢
    clear hwC
    refine tq 0 rfl hSC0 ?_
    refine tq 1 rfl hSC0 ?_
    refine tq 2 rfl hSC0 ?_
    refine tq 3 rfl hSC0 ?_
    refine tq 4 rfl hSC0 ?_
    refine tm 5 rfl hSC0 ?_
    refine tm 6 rfl hSC0 ?_
    refine tm 7 rfl hSC0 ?_
    refine tm 8 rfl hSC0 ?_
    refine tm 9 rfl hSC0 ?_
    refine tm 10 rfl hSC0 ?_
    refine tm 11 rfl hSC0 ?_
    refine tm 12 rfl hSC0 ?_
    refine tq 13 rfl hSC0 ?_
    refine tq 14 rfl hSC0 ?_
    refine tq 15 rfl hSC0 ?_
    refine wpAnyH_done (by kernel_rfl) ?_ _
    go_wp2_with fail
    go_ret2
    exact ⟨by rw [FD.out, HE.out.1]; first | rfl | (congr 3; rw [Bool.eq_iff_iff]; simp) | (simp; done), Below.then_ B1.out (Below.then_ HB.out hSC0)⟩
end
section
attribute [local go_sem ↓] mkPr_fold
theorem place_any {H : Nat → Prop} (w0 w : World) (t g b : Nat) (F : Nat → Prop) (d : Dev) (T : TableD) (A : Option Addr) (k c : Nat) (xs : List PairV) (hT : TabG H w0 w t g b F d T A k c xs) (hOk : T.Ok) (B : Option Addr) (n q : Nat) (key : List Int) (hB : Bys w B n key) (hq : n ≤ q) :
  Calls Tryz.prog 38 #[.pointer (some ⟨t, 0, none⟩), .slice B n q] w fun e w' => e = .returned (.tuple #[.int .i64 (placeP T.pairs key : Int), .bool (foundP T.pairs key)]) ∧ Below w.heap.size w w' := by
 have hk : k ≤ 300000 := by
  have h7 := right_len hOk.right
  have h8 := hOk.size
  have h9 := congrArg List.length hT.data
  rw [List.length_map, hT.keep.in_.1] at h9
  omega
 have hs := hide (Search_any w A k c xs ⟨B, n, q, key, none, 0, 0, [], false⟩ hT.keep.in_ ⟨hB, hq, Bys.nil _ _, Nat.le_refl _⟩ (by omega) (by rw [hT.data]; exact right_sorted hOk.right))
 rw [hT.data] at hs
 have c2 := hT.cells.2.2
 have hmk := mkPr_key w B n q
 clear hT hOk hB hq hk
 go_enter Tryz.func38, Tryz.ntmps38
 go_wp2_with fail
 refine hs.out.mono ?_
 rintro e w1 ⟨rfl, b1⟩
 have B1 := hide b1
 clear b1
 go_wp2_with fail
 go_ret2
 exact ⟨rfl, B1.out⟩
def GetPost (w : World) (l : List PairD) (key : List Int) (e : Ending) (w' : World) : Prop :=
 Below w.heap.size w w' ∧ ((foundP l key = false ∧ e = .returned (.tuple #[.slice none 0 0, .bool false])) ∨
  ∃ (p : PairD) (A : Option Addr) (n c : Nat), foundP l key = true ∧ l[placeP l key]? = some p ∧ e = .returned (.tuple #[.slice A n c, .bool true]) ∧ Bys w' A n p.value ∧ n ≤ c)
theorem found_at {l : List PairD} {key : List Int} (h : foundP l key = true) : ∃ p, l[placeP l key]? = some p ∧ p.key = key := by
 unfold foundP at h
 cases hg : l[placeP l key]? with
 | none => rw [hg] at h; cases h
 | some p => rw [hg] at h; exact ⟨p, rfl, lex_zero _ _ (of_decide_eq_true h)⟩
theorem Get_any {H : Nat → Prop} (w0 w : World) (t g b : Nat) (F : Nat → Prop) (d : Dev) (T : TableD) (hT : TabW H w0 w t g b F d T) (hOk : T.Ok) (B : Option Addr) (n q : Nat) (key : List Int) (hB : Bys w B n key) (hq : n ≤ q) :
  Calls Tryz.prog 19 #[.pointer (some ⟨t, 0, none⟩), .slice B n q] w (GetPost w T.pairs key) := by
 obtain ⟨A, k, c, xs, hG⟩ := hT
 have H := hide hG
 have OK := hide hOk
 have hp := hide (place_any w0 w t g b F d T A k c xs hG hOk B n q key hB hq)
 have hk : k ≤ 300000 := by
  have h7 := right_len hOk.right
  have h8 := hOk.size
  have h9 := congrArg List.length hG.data
  rw [List.length_map, hG.keep.in_.1] at h9
  omega
 have k9 : (k : Int) ≤ 300000 := by omega
 clear hG hOk hB hq hk
 go_enter Tryz.func19, Tryz.ntmps19
 go_wp2_with fail
 refine hp.out.mono ?_
 rintro e w1 ⟨rfl, b1⟩
 have B1 := hide b1
 have H1 := hide (H.out.under b1)
 clear b1 hp
 cases hf : foundP T.pairs key with
 | false =>
  have HF := hide hf
  clear hf
  go_wp2_with fail
  go_ret2
  exact ⟨B1.out, .inl ⟨HF.out, rfl⟩⟩
 | true =>
  obtain ⟨p, hp, hpk⟩ := found_at hf
  have HF := hide hf
  have HP := hide hp
  obtain ⟨P, hP⟩ : ∃ P, P = placeP T.pairs key := ⟨_, rfl⟩
  have HPP := hide hP
  rw [← hP] at hp ⊢
  have hpl : P < k := by
   have h1 := (List.getElem?_eq_some_iff.1 hp).1
   have h9 := congrArg List.length H.out.data
   rw [List.length_map, H.out.keep.in_.1] at h9
   omega
  obtain ⟨x, hx⟩ : ∃ x, xs[P]? = some x := ⟨_, List.getElem?_eq_getElem (by rw [H.out.keep.in_.1]; exact hpl)⟩
  have hxd : x.d = p := by
   have h1 := pmap_get hx
   rw [H.out.data, hp] at h1
   injection h1 with h1
   exact h1.symm
  obtain ⟨pb, off, hpa, hrow⟩ := H1.out.keep.in_.2.2 (by omega)
  subst hpa
  have hr := hrow P x hx
  have v1 : w1.cell? ⟨pb, off + P * 3 + 1, none⟩ = some (.slice x.vA x.vN x.vC) := hr 1 _ rfl
  have XF := hide (H1.out.keep.in_.2.1 x (List.mem_of_getElem? hx))
  have HXD := hide hxd
  have HXN := hide (show x.vN ≤ 20000 by
   have h1 := ((okB_iff _).1 (right_ok OK.out.right p (List.mem_of_getElem? hp))).2.2.1
   rw [← hxd] at h1
   have h2 := XF.out.value.1
   have h3 : x.value.length ≤ 20000 := h1
   omega)
  have c2 := H1.out.cells.2.2
  have p0 : (0 : Int) ≤ (P : Int) := by omega
  have p1 : (P : Int) < (k : Int) := by omega
  clear hf hp hpk hP hpl hx hxd hrow hr
  go_wp2_with fail
  refine (clone_any w1 w1 x.vA x.vN x.vC x.value (Below.refl _ _) XF.out.value (by have := HXN.out; omega)).mono ?_
  rintro e w2 hm
  obtain ⟨A2, n2, c2', rfl, t2, f2⟩ := hm.fresh
  have T2 := hide t2
  clear hm t2 f2
  go_wp2_with fail
  go_ret2
  exact ⟨Below.then_ B1.out T2.out.below, .inr ⟨p, A2, n2, c2', HF.out, HP.out, rfl, by rw [← HXD.out]; exact T2.out.bys, T2.out.cap⟩⟩
theorem TAll_any {H : Nat → Prop} (w0 w : World) (t g b : Nat) (F : Nat → Prop) (d : Dev) (T : TableD) (hT : TabW H w0 w t g b F d T) (hOk : T.Ok) :
  Calls Tryz.prog 22 #[.pointer (some ⟨t, 0, none⟩)] w (PMergePost w T.pairs) := by
 obtain ⟨A, k, c, xs, hG⟩ := hT
 have hk : k ≤ 300000 := by
  have h7 := right_len hOk.right
  have h8 := hOk.size
  have h9 := congrArg List.length hG.data
  rw [List.length_map, hG.keep.in_.1] at h9
  omega
 have hm := hide (PMerge_any w A k c xs none 0 0 [] hG.keep.in_ (RowsIn.nil _ _ _ _ _) hG.cap (Nat.le_refl _) (by omega) (by decide) (right_small hG.keep.in_ (by rw [hG.data]; exact hOk.right)) (by simp))
 rw [hG.data, List.map_nil, mergeD_nil] at hm
 have c2 := hG.cells.2.2
 clear hG hOk hk
 go_enter Tryz.func22, Tryz.ntmps22
 go_wp2_with fail
 refine hm.out.mono ?_
 rintro e w1 ⟨A1, k1, c1, zs, rfl, hz, hr, hb⟩
 have HZ := hide hz
 have HR := hide hr
 have HB := hide hb
 clear hz hr hb hm
 go_wp2_with fail
 go_ret
 exact ⟨A1, k1, c1, zs, rfl, HZ.out, HR.out, HB.out⟩
end
section
theorem mkPr_two (w : World) (A B : Option Addr) (n c m d : Nat) : (mkPr #[(0, .slice A n c), (1, .slice B m d)]).run Tryz.prog w = .ok (.agg #[.slice A n c, .slice B m d, .bool false]) w := by
 have hz := zeroPr_info
 cases hq : Tryz.prog.info? 59 with
 | none => rw [hq] at hz; cases hz
 | some i =>
  rw [hq] at hz
  have hz' : i.zero = some (.agg zeroPr.toArray) := by simpa using hz
  have hs : ∀ t, t = 23 ∨ t = 4 → (Tryz.prog.info? t).map (·.size) = some 1 := by
   rintro t (rfl | rfl) <;> kernel_rfl
  have h28 := fun w => run_size (P := Tryz.prog) (hs 23 (.inl rfl)) w
  have h4 := fun w => run_size (P := Tryz.prog) (hs 4 (.inr rfl)) w
  unfold mkPr Instr.build
  simp only [Sem.run_bind, run_zero hq hz', Result.andThen_ok, run_underlying Tryz.underlying59]
  simp [h28, h4, Instr.fill, Value.cells, zeroPr]
theorem PairsIn.one {w : World} {g : Nat} {p : PairV} (h : p.Fine w) (hr : w.rangeAt g 0 p.cells) : PairsIn w (some ⟨g, 0, none⟩) 1 [p] :=
 ⟨rfl, fun a ha => by rw [List.mem_singleton.1 ha]; exact h, fun _ => ⟨g, 0, rfl, fun i a ha => by
  rcases i with _ | i
  ·simp at ha; subst ha; simpa using hr
  ·simp at ha⟩⟩
attribute [local go_sem ↓] mkPr_fold mkPrs1_fold
theorem talive_any (w : World) : Calls Tryz.prog 4 #[] w fun e w' => e = .returned (.bool true) ∧ Below w.heap.size w w' := by
 obtain ⟨d1, d2, d3, l1, l2, l3, e1, e2, e3, e4, e5⟩ := table_alive
 have E1 := hide e1
 have E2 := hide e2
 have E3 := hide e3
 have E4 := hide e4
 have E5 := hide e5
 have G1 := hide (show Grew (newDev 20) d1 1700 by have h := openT_grew (newDev 20) (by rw [told_new]; intro p hp; cases hp); rwa [e1] at h)
 have OK1 := hide (openT_some (newDev_good 20) (t := ⟨l1, []⟩) (by rw [e1])).1
 clear e1 e2 e3 e4 e5
 go_enter Tryz.func4, Tryz.ntmps4
 go_wp2_with fail
 refine (new_any w 20).mono ?_
 rintro e w1 ⟨b, F0, rfl, h1, b1, f1⟩
 have D1 := hide h1
 have B1 := hide b1
 have FR := hide f1
 clear h1 b1 f1
 go_wp2_with fail
 refine (TOpen_any (fun _ => False) w w1 b F0 _ D1.out (new_bytes 20) (by decide) B1.out FR.out (fun _ hf => hf.elim)).mono ?_
 rintro e w2 ⟨F1, hD, hF, ho, hc⟩
 rw [E1.out] at hD hc
 rcases hc with ⟨h9, _⟩ | ⟨T, t, g, hT, rfl, ht, hg, hW⟩
 ·cases h9
 have hT' : (⟨l1, []⟩ : TableD) = T := by injection hT
 subst hT'
 have D2 := hide hD
 have W2 := hide hW
 have FF1 := hide hF
 have O2 := hide ho
 have HTG := hide (show w1.heap.size ≤ t ∧ w1.heap.size ≤ g from ⟨ht, hg⟩)
 have B2 := hide (show Below w.heap.size w w2 from B1.out.trans (ho.below B1.out.size (fun i hi hf => by have := FR.out i hf; omega)))
 have FR1 := hide (show ∀ i, F1 i → w.heap.size ≤ i from fun i hi => by
  rcases hF i hi with h9 | h9
  ·exact FR.out i h9
  ·have := B1.out.size; omega)
 clear hD hF ho hT ht hg hW
 obtain ⟨wa, hwa⟩ : ∃ z, z = w2.alloc (.cells #[.int .u8 97] 5 (1, 2)) := ⟨_, rfl⟩
 obtain ⟨wb, hwb⟩ : ∃ z, z = wa.alloc (.cells #[.int .u8 49] 5 (1, 2)) := ⟨_, rfl⟩
 obtain ⟨P, hP⟩ : ∃ P : PairV, P = ⟨some ⟨w2.heap.size, 0, none⟩, 1, 1, [97], some ⟨w2.heap.size + 1, 0, none⟩, 1, 1, [49], false⟩ := ⟨_, rfl⟩
 obtain ⟨wc, hwc⟩ : ∃ z, z = wb.alloc (.cells P.cells.toArray 59) := ⟨_, rfl⟩
 have za : wa.heap.size = w2.heap.size + 1 := by rw [hwa]; simp
 have zb : wb.heap.size = w2.heap.size + 1 + 1 := by rw [hwb]; simp [za]
 have ba_ : Below w2.heap.size w2 wa := by rw [hwa]; exact below_alloc (Below.refl _ _) _
 have bb_ : Below wa.heap.size wa wb := by rw [hwb]; exact below_alloc (Below.refl _ _) _
 have bc_ : Below wb.heap.size wb wc := by rw [hwc]; exact below_alloc (Below.refl _ _) _
 have BC := hide (Below.then_ ba_ (Below.then_ bb_ bc_))
 have PF := hide (show P.Fine wc by
  rw [hP]
  refine ⟨?_, Nat.le_refl _, ?_, Nat.le_refl _⟩
  ·exact ((by rw [hwa]; exact one_mark w2 97 (by decide) (by decide) : Bys wa (some ⟨w2.heap.size, 0, none⟩) 1 [97]).below bb_).below bc_
  ·exact (by rw [hwb, ← za]; exact one_mark wa 49 (by decide) (by decide) : Bys wb (some ⟨w2.heap.size + 1, 0, none⟩) 1 [49]).below bc_)
 have PR := hide (show wc.rangeAt (w2.heap.size + 1 + 1) 0 P.cells by rw [hwc, ← zb]; exact (Blk.new wb 59 P.cells).whole)
 have hmk := mkPr_two wb (some ⟨w2.heap.size, 0, none⟩) (some ⟨w2.heap.size + 1, 0, none⟩) 1 1 1 1
 have hmks : (mkPrs1 #[(0, .agg #[.slice (some ⟨w2.heap.size, 0, none⟩) 1 1, .slice (some ⟨w2.heap.size + 1, 0, none⟩) 1 1, .bool false])]).run Tryz.prog wb = .ok (.slice (some ⟨w2.heap.size + 1 + 1, 0, none⟩) 1 1) wc := by
  have := mkPrs1_run wb P
  rw [← hwc, zb, hP] at this
  exact this
 have PD := hide (show [P].map PairV.d = [pA] by rw [hP]; rfl)
 have hca : (convert 23 23 (.slice (some ⟨w2.heap.size, 0, none⟩) 1 1)).run Tryz.prog (w2.alloc (.cells #[.int .u8 97] 5)) = .ok (.slice (some ⟨w2.heap.size, 0, none⟩) 1 1) wa := by
  rw [hwa]
  exact Joins.run_convert_bytes_const_at (P := Tryz.prog) w2 23 5 #[.int .u8 97] 1 1 w2.heap.size rfl Tryz.underlying23 Tryz.underlying5
 have hcb : (convert 23 23 (.slice (some ⟨w2.heap.size + 1, 0, none⟩) 1 1)).run Tryz.prog (wa.alloc (.cells #[.int .u8 49] 5)) = .ok (.slice (some ⟨w2.heap.size + 1, 0, none⟩) 1 1) wb := by
  rw [hwb]
  exact Joins.run_convert_bytes_const_at (P := Tryz.prog) wa 23 5 #[.int .u8 49] 1 1 (w2.heap.size + 1) za.symm Tryz.underlying23 Tryz.underlying5
 clear hwa hwb hwc hP bb_ bc_ ba_
 go_wp2_with fail
 clear hmk hmks hca hcb zb
 have hap := Apply_any (fun _ => False) w wc t g b F1 d1 ⟨l1, []⟩ (some ⟨w2.heap.size + 1 + 1, 0, none⟩) 1 1 [P] (W2.out.under BC.out) OK1.out (G1.out.bytes (new_bytes 20)) (by have h9 := G1.out.many; have h8 : (newDev 20).written.length = 0 := rfl; omega) (PairsIn.one PF.out PR.out) (Nat.le_refl _) (by decide) (by rw [PD.out]; decide) (fun _ hf => hf.elim)
 rw [PD.out, E2.out] at hap
 refine hap.mono ?_
 rintro e w3 ⟨rfl, F2, hW3, hF2, o3⟩
 obtain ⟨A3, k3, c3, xs3, hG3⟩ := hW3
 have D3 := hide hG3.log.dev
 have B3 := hide hG3.log.below
 have FR2 := hide hG3.log.fresh
 have G2 := hide (show Grew d1 d2 2600 by
  have h := applyT_grew d1 ⟨l1, []⟩ [pA] (by intro p hp; cases hp) (by intro p hp; rw [List.mem_singleton.1 hp]; exact ⟨by intro x hx; rw [List.mem_singleton.1 hx]; decide, by intro x hx; rw [List.mem_singleton.1 hx]; decide⟩)
  rwa [E2.out] at h)
 have HB2 := hide (G2.out.bytes (G1.out.bytes (new_bytes 20)))
 have HW2 := hide (show d2.written.length ≤ 5000 by have h9 := G1.out.many; have h8 : (newDev 20).written.length = 0 := rfl; have h7 := G2.out.many; omega)
 clear hG3 hF2 o3 hap
 go_wp2_with fail
 refine (restart_any w3 b F2 d2 none 0 0 [] D3.out (by have := HW2.out; omega) (Bys.nil _ _) (fun h => absurd h (by decide)) (by decide)).mono ?_
 rintro e w4 ⟨rfl, F3, hD4, o4, hF4⟩
 rw [E3.out] at hD4
 have D4 := hide hD4
 have B4 := hide (show Below w.heap.size w w4 from B3.out.trans (o4.below B3.out.size (fun i hi hf => by have := FR2.out i hf; omega)))
 have FR3 := hide (show ∀ i, F3 i → w.heap.size ≤ i from fun i hi => by
  rcases hF4 i hi with h9 | h9
  ·exact FR2.out i h9
  ·have := B3.out.size; omega)
 clear hD4 o4 hF4
 go_wp2_with fail
 refine (TOpen_any (fun _ => False) w w4 b F3 d2 D4.out HB2.out (by have := HW2.out; omega) B4.out FR3.out (fun _ hf => hf.elim)).mono ?_
 rintro e w5 ⟨F4, hD, hF, ho, hc⟩
 have OK4 := hide (openT_some (d := d2) D4.out.good (t := ⟨l3, [pA]⟩) (by rw [E4.out])).1
 rw [E4.out] at hD hc
 rcases hc with ⟨h9, _⟩ | ⟨T, t5, g5, hT, rfl, ht, hg, hW⟩
 ·cases h9
 have hT' : (⟨l3, [pA]⟩ : TableD) = T := by injection hT
 subst hT'
 have W5 := hide hW
 have B5 := hide (show Below w.heap.size w w5 by
  obtain ⟨_, _, _, _, hG5⟩ := hW
  exact hG5.log.below)
 clear hD hF ho hT ht hg hW
 obtain ⟨w6, hw6⟩ : ∃ z, z = w5.alloc (.cells #[.int .u8 97] 5 (1, 2)) := ⟨_, rfl⟩
 have b6 : Below w5.heap.size w5 w6 := by rw [hw6]; exact below_alloc (Below.refl _ _) _
 have Y6 := hide (show Bys w6 (some ⟨w5.heap.size, 0, none⟩) 1 [97] by rw [hw6]; exact one_mark w5 97 (by decide) (by decide))
 have hca : (convert 23 23 (.slice (some ⟨w5.heap.size, 0, none⟩) 1 1)).run Tryz.prog (w5.alloc (.cells #[.int .u8 97] 5)) = .ok (.slice (some ⟨w5.heap.size, 0, none⟩) 1 1) w6 := by
  rw [hw6]
  exact Joins.run_convert_bytes_const_at (P := Tryz.prog) w5 23 5 #[.int .u8 97] 1 1 w5.heap.size rfl Tryz.underlying23 Tryz.underlying5
 have B6 := hide (Below.then_ B5.out b6)
 have W6 := hide (W5.out.under b6)
 clear hw6 b6
 go_wp2_with fail
 clear hca
 refine (Get_any w w6 t5 g5 b F4 d3 ⟨l3, [pA]⟩ W6.out OK4.out (some ⟨w5.heap.size, 0, none⟩) 1 1 [97] Y6.out (Nat.le_refl _)).mono ?_
 rintro e w7 ⟨b7, hc⟩
 rcases hc with ⟨h9, _⟩ | ⟨p, A7, n7, c7, h9, hp, rfl, hB7, hc7⟩
 ·exact absurd (show foundP [pA] [97] = false from h9) (by decide)
 have hpp : pA = p := by
  have h8 : ([pA] : List PairD)[placeP [pA] [97]]? = some p := hp
  rw [show placeP [pA] [97] = 0 by decide] at h8
  simpa using h8
 subst hpp
 have Y7 := hide (show Bys w7 A7 n7 [49] from hB7)
 have B7 := hide (Below.then_ B6.out b7)
 have W7 := hide (W6.out.under b7)
 clear h9 hp hB7 hc7 b7
 obtain ⟨w8, hw8⟩ : ∃ z, z = w7.alloc (.cells #[.int .u8 98] 5 (1, 2)) := ⟨_, rfl⟩
 have b8 : Below w7.heap.size w7 w8 := by rw [hw8]; exact below_alloc (Below.refl _ _) _
 have Y8 := hide (show Bys w8 (some ⟨w7.heap.size, 0, none⟩) 1 [98] by rw [hw8]; exact one_mark w7 98 (by decide) (by decide))
 have hcb : (convert 23 23 (.slice (some ⟨w7.heap.size, 0, none⟩) 1 1)).run Tryz.prog (w7.alloc (.cells #[.int .u8 98] 5)) = .ok (.slice (some ⟨w7.heap.size, 0, none⟩) 1 1) w8 := by
  rw [hw8]
  exact Joins.run_convert_bytes_const_at (P := Tryz.prog) w7 23 5 #[.int .u8 98] 1 1 w7.heap.size rfl Tryz.underlying23 Tryz.underlying5
 have B8 := hide (Below.then_ B7.out b8)
 have W8 := hide (W7.out.under b8)
 have Z8 := hide (Y7.out.below b8)
 clear hw8 b8
 go_wp2_with fail
 clear hcb
 refine (Get_any w w8 t5 g5 b F4 d3 ⟨l3, [pA]⟩ W8.out OK4.out (some ⟨w7.heap.size, 0, none⟩) 1 1 [98] Y8.out (Nat.le_refl _)).mono ?_
 rintro e w9 ⟨b9, hc⟩
 rcases hc with ⟨h9, rfl⟩ | ⟨p, A9, n9, c9, h9, _⟩
 ·have B9 := hide (Below.then_ B8.out b9)
  have W9 := hide (W8.out.under b9)
  have z9 := run_str w9 A7 n7 c7 [49] (Z8.out.below b9)
  rw [show ba [49] = ⟨#[49]⟩ from rfl] at z9
  have hcell := hide (show w9.cell? ⟨t5, 0, none⟩ = some (.pointer (some ⟨g5, 0, none⟩)) by
   obtain ⟨_, _, _, _, hG⟩ := W9.out
   exact hG.cells.1)
  have y0 := hcell.out
  have HRD := hide (show Calls Tryz.prog 21 #[.pointer (some ⟨g5, 0, none⟩)] w9 fun e w' => e = .returned (.bool true) ∧ w9 = w' by
   obtain ⟨_, _, _, _, hG⟩ := W9.out
   have h8 := Ready_any w9 g5 b l3 hG.log.log
   rwa [E5.out] at h8)
  clear h9 b9
  go_wp2_with fail
  refine HRD.out.mono ?_
  rintro e wz ⟨rfl, rfl⟩
  clear y0
  go_wp2_with fail
  refine (TAll_any w w9 t5 g5 b F4 d3 ⟨l3, [pA]⟩ W9.out OK4.out).mono ?_
  rintro e wq ⟨Aq, k, cq, zs, rfl, hz, hr, bq⟩
  obtain rfl : k = 1 := by
   have h8 := congrArg List.length hz
   rw [List.length_map, hr.len] at h8
   exact h8
  have BQ := hide (Below.then_ B9.out bq)
  clear hz hr bq
  go_wp2_with fail
  go_ret
  exact ⟨rfl, BQ.out⟩
 ·exact absurd (show foundP [pA] [98] = true from h9) (by decide)
end
end Go.Proofs.YtjnpkcabkccaoaaGreat
