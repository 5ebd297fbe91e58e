/- Lemmas and walks for TableRuns, packed. -/
import Derived.Test.YtjnpkcabkccaoaaGreatQ20
import Derived.Test.YtjnpkcabkccaoaaGreatQ16
import Derived.Test.YtjnpkcabkccaoaaGreatQ19
import Derived.Test.YtjnpkcabkccaoaaGreatQ22
import Derived.Test.YtjnpkcabkccaoaaGreatQ17
set_option maxRecDepth 100000
set_option maxHeartbeats 16000000
namespace Go.Proofs.YtjnpkcabkccaoaaGreat
open Go.RowKit
section
def prevK (L : List PairD) : Nat → Option (List Int)
 | 0 => none
 | j + 1 => (L[j]?).map (·.key)
theorem right_step (L : List PairD) (j : Nat) (x : PairD) (hx : L[j]? = some x) (h : rightB L = rightFrom (prevK L j) (L.drop j)) :
  rightB L = ((x.okB && aheadB (prevK L j) x.key) && rightFrom (prevK L (j + 1)) (L.drop (j + 1))) := by
 obtain ⟨hlt, he⟩ := List.getElem?_eq_some_iff.1 hx
 rw [h, List.drop_eq_getElem_cons hlt, he, rightFrom]
 simp only [prevK, hx, Option.map_some]
theorem pmap_get {xs : List PairV} {j : Nat} {x : PairV} (h : xs[j]? = some x) : (xs.map PairV.d)[j]? = some x.d := by rw [List.getElem?_map, h]; rfl
attribute [local go_sem ↓] loadPr_fold
theorem batch_any (w : World) (A : Option Addr) (n c : Nat) (xs : List PairV) (hX : PairsIn w A n xs) (hn : n ≤ 1000000000000) (hm : ∀ p ∈ xs, p.kN ≤ 1000000000000 ∧ p.vN ≤ 1000000000000) :
  Calls Tryz.prog 45 #[.slice A n c] w fun e w' => e = .returned (.bool (rightB (xs.map PairV.d))) ∧ Below w.heap.size w w' := by
 have HX := hide hX
 have HM := hide hm
 have n9 : (n : Int) ≤ 1000000000000 := by omega
 obtain ⟨L, hL⟩ : ∃ L, L = xs.map PairV.d := ⟨_, rfl⟩
 have HL := hide hL
 rw [← hL]
 clear hX hn hm hL
 go_enter Tryz.func45, Tryz.ntmps45
 go_wp2_with fail
 go_loopw [7] (fun i wr => ∃ j : Nat, j ≤ n ∧ i = .int .i64 (j : Int) ∧ rightB L = rightFrom (prevK L j) (L.drop j) ∧ Below w.heap.size w wr) (fun i _ => n - (intOf i).toNat)
 case atStart => exact ⟨0, by omega, rfl, rfl, Below.refl _ _⟩
 case round =>
  obtain ⟨j, hj, rfl, hr, hb⟩ := hrel
  have HB := hide hb
  have XR := hide (HX.out.below' hb)
  by_cases hlt : j < n
  ·obtain ⟨pb, off, hpa, hrow⟩ := XR.out.2.2 (by omega)
   subst hpa
   obtain ⟨x, hx⟩ : ∃ x, xs[j]? = some x := ⟨_, List.getElem?_eq_getElem (by rw [XR.out.1]; exact hlt)⟩
   have XF := hide (XR.out.2.1 x (List.mem_of_getElem? hx))
   have XM := hide (HM.out x (List.mem_of_getElem? hx))
   have HR := hide (right_step L j x.d (by rw [HL.out]; exact pmap_get hx) hr)
   have hld := loadPr_run wr pb (off + j * 3) x (hrow j x hx)
   have HLT := hide hlt
   have HROW := hide hrow
   have i0 : (0 : Int) ≤ (j : Int) := by omega
   have i1 : (j : Int) < (n : Int) := by omega
   clear hr hb hx hlt hrow hj
   go_wp2_with (first
    | (refine wpList_alloc_agg rfl 59 rfl zeroPr zeroPr_info ?_; simp only [pU])
    | (refine pr_store rfl _ _ rfl wr rfl (by rfl) x (by rfl) ?_; intro w5 b5 s5 k5; have B5 := hide b5; have K5 := hide k5; clear b5 s5 k5 hld; simp only [Act.put]))
   have B05 := hide (Below.then_ HB.out B5.out)
   have XF5 := hide (XF.out.below B5.out)
   cases hok : x.d.okB with
   | false =>
    have HE := hide (show rightB L = false by rw [HR.out, hok]; rfl)
    have HOK := hide hok
    clear hok
    refine wp_region_held_drew (S := fun w' => Below w5.heap.size w5 w') (by kernel_rfl) ((Below.refl _ w5).drew) (fun hSA0 => ?_)
    obtain ⟨w5d, hwA⟩ : ∃ x, x = w5.drew := ⟨_, rfl⟩
    rw [← hwA] at hSA0 ⊢
    clear hwA
    (refine tq 0 rfl hSA0 ?_ (fun w' hSw => by have z := loadPr_run w' wr.heap.size 0 x (K5.out.under hSw).whole; go_simp; try with_reducible rfl))
    refine ry 1 rfl fun K hK => ?_
    go_simp
    refine (one_any w5d x (XF5.out.below hSA0) XM.out).mono ?_
    rintro e w6 ⟨rfl, b6⟩
    rw [HOK.out]
    go_simp
    refine hK.out _ _ (Below.then_ hSA0 b6) (fun hSA1 => ?_)
    clear hK K
    refine tq 2 rfl hSA1 ?_
    refine tq 3 rfl hSA1 ?_
    refine tm 4 rfl hSA1 ?_
    refine tm 5 rfl hSA1 ?_
    refine tm 6 rfl hSA1 ?_
    refine tm 7 rfl hSA1 ?_
    refine tm 8 rfl hSA1 ?_
    refine tm 9 rfl hSA1 ?_
    refine tm 10 rfl hSA1 ?_
    refine tm 11 rfl hSA1 ?_
    refine tm 12 rfl hSA1 ?_
    refine tm 13 rfl hSA1 ?_
    refine tm 14 rfl hSA1 ?_
    refine tm 15 rfl hSA1 ?_
    refine tq 16 rfl hSA1 ?_
    refine wpAnyH_done (by kernel_rfl) ?_ _
    go_wp2_with fail
    go_ret
    exact ⟨by rw [HE.out]; rfl, Below.then_ B05.out hSA1⟩
   | true =>
    have HOK := hide hok
    by_cases h0 : j = 0
    ·subst h0
     have HE := hide (show rightB L = rightFrom (prevK L (0 + 1)) (L.drop (0 + 1)) by rw [HR.out, hok]; rfl)
     clear hok
     refine wp_region_held_drew (S := fun w' => Below w5.heap.size w5 w') (by kernel_rfl) ((Below.refl _ w5).drew) (fun hSB0 => ?_)
     obtain ⟨w5d, hwB⟩ : ∃ x, x = w5.drew := ⟨_, rfl⟩
     rw [← hwB] at hSB0 ⊢
     clear hwB
     (refine tq 0 rfl hSB0 ?_ (fun w' hSw => by have z := loadPr_run w' wr.heap.size 0 x (K5.out.under hSw).whole; go_simp; try with_reducible rfl))
     refine ry 1 rfl fun K hK => ?_
     go_simp
     refine (one_any w5d x (XF5.out.below hSB0) XM.out).mono ?_
     rintro e w6 ⟨rfl, b6⟩
     rw [HOK.out]
     go_simp
     refine hK.out _ _ (Below.then_ hSB0 b6) (fun hSB1 => ?_)
     clear hK K
     refine tq 2 rfl hSB1 ?_
     refine tq 3 rfl hSB1 ?_
     refine tq 4 rfl hSB1 ?_
     refine tq 5 rfl hSB1 ?_
     refine tq 6 rfl hSB1 ?_
     refine tm 7 rfl hSB1 ?_
     refine tm 8 rfl hSB1 ?_
     refine tm 9 rfl hSB1 ?_
     refine tm 10 rfl hSB1 ?_
     refine tm 11 rfl hSB1 ?_
     refine tm 12 rfl hSB1 ?_
     refine tm 13 rfl hSB1 ?_
     refine tm 14 rfl hSB1 ?_
     refine tq 15 rfl hSB1 ?_
     refine tq 16 rfl hSB1 ?_
     refine wpAnyH_done (by kernel_rfl) ?_ _
     go_wp2_with fail
     exact ⟨⟨0 + 1, by have := HLT.out; omega, by go_num, HE.out, Below.then_ B05.out hSB1⟩, by have := HLT.out; simp [intOf]; omega⟩
    ·obtain ⟨k, hk⟩ : ∃ k, k + 1 = j := ⟨j - 1, by omega⟩
     have hkl : k < xs.length := by rw [XR.out.1]; have := HLT.out; omega
     obtain ⟨y, hy⟩ : ∃ y, xs[k]? = some y := ⟨_, List.getElem?_eq_getElem hkl⟩
     have YF5 := hide ((XR.out.2.1 y (List.mem_of_getElem? hy)).below B5.out)
     have YR := hide (range_under (HROW.out k y hy) B5.out)
     have hwr : IntKind.i64.wrap (k : Int) = (k : Int) := by rw [IntKind.wrap_i64]; omega
     have hwr2 : (j : Int) - 1 = (k : Int) := by omega
     have j1 : (j : Int) > 0 := by omega
     have j3 : 0 < j := by omega
     have k0 : (0 : Int) ≤ (k : Int) := by omega
     have k1 : (k : Int) < (n : Int) := by have := HLT.out; omega
     have HP := hide (show aheadB (prevK L j) x.d.key = decide (lex y.key x.key < 0) by rw [← hk, prevK, HL.out, pmap_get hy]; rfl)
     clear hk hkl hy h0
     by_cases hx9 : lex y.key x.key < 0
     ·have HE := hide (show rightB L = rightFrom (prevK L (j + 1)) (L.drop (j + 1)) by rw [HR.out, hok, HP.out, decide_eq_true hx9]; rfl)
      have c9 : ¬ (0 ≤ lex y.key x.key) := by omega
      have d9 : decide (lex y.key x.key ≥ 0) = false := by simp; omega
      clear hok
      refine wp_region_held_drew (S := fun w' => Below w5.heap.size w5 w') (by kernel_rfl) ((Below.refl _ w5).drew) (fun hSC0 => ?_)
      obtain ⟨w5d, hwC⟩ : ∃ x, x = w5.drew := ⟨_, rfl⟩
      rw [← hwC] at hSC0 ⊢
      clear hwC
      (refine tq 0 rfl hSC0 ?_ (fun w' hSw => by have z := loadPr_run w' wr.heap.size 0 x (K5.out.under hSw).whole; go_simp; try with_reducible rfl))
      refine ry 1 rfl fun K hK => ?_
      go_simp
      refine (one_any w5d x (XF5.out.below hSC0) XM.out).mono ?_
      rintro e w6 ⟨rfl, b6⟩
      rw [HOK.out]
      go_simp
      refine hK.out _ _ (Below.then_ hSC0 b6) (fun hSC1 => ?_)
      clear hK K
      refine tq 2 rfl hSC1 ?_
      refine tq 3 rfl hSC1 ?_
      refine tq 4 rfl hSC1 ?_
      refine tq 5 rfl hSC1 ?_
      refine tq 6 rfl hSC1 ?_
      refine tq 7 rfl hSC1 ?_
      refine tq 8 rfl hSC1 ?_
      refine tq 9 rfl hSC1 ?_
      refine tq 10 rfl hSC1 ?_
      (refine tq 11 rfl hSC1 ?_ (fun w' hSw => by have z := loadPr_run w' pb (off + k * 3) y (range_under YR.out hSw); go_simp; try with_reducible rfl))
      (refine tq 12 rfl hSC1 ?_ (fun w' hSw => by have z := loadPr_run w' wr.heap.size 0 x (K5.out.under hSw).whole; go_simp; try with_reducible rfl))
      refine ry 13 rfl fun K hK => ?_
      go_simp
      refine (byKey_any w6 y x (YF5.out.below hSC1) (XF5.out.below hSC1)).mono ?_
      rintro e w7 ⟨rfl, b7⟩
      go_simp
      refine hK.out _ _ (Below.then_ hSC1 b7) (fun hSC2 => ?_)
      clear hK K
      refine tq 14 rfl hSC2 ?_
      refine tq 15 rfl hSC2 ?_
      refine tq 16 rfl hSC2 ?_
      refine wpAnyH_done (by kernel_rfl) ?_ _
      go_wp2_with fail
      exact ⟨⟨j + 1, by have := HLT.out; omega, by go_num, HE.out, Below.then_ B05.out hSC2⟩, by have := HLT.out; simp [intOf]; omega⟩
     ·have HE := hide (show rightB L = false by rw [HR.out, hok, HP.out, decide_eq_false hx9]; rfl)
      have c9 : 0 ≤ lex y.key x.key := by omega
      have d9 : decide (lex y.key x.key ≥ 0) = true := by simp; omega
      clear hok
      refine wp_region_held_drew (S := fun w' => Below w5.heap.size w5 w') (by kernel_rfl) ((Below.refl _ w5).drew) (fun hSD0 => ?_)
      obtain ⟨w5d, hwD⟩ : ∃ x, x = w5.drew := ⟨_, rfl⟩
      rw [← hwD] at hSD0 ⊢
      clear hwD
      (refine tq 0 rfl hSD0 ?_ (fun w' hSw => by have z := loadPr_run w' wr.heap.size 0 x (K5.out.under hSw).whole; go_simp; try with_reducible rfl))
      refine ry 1 rfl fun K hK => ?_
      go_simp
      refine (one_any w5d x (XF5.out.below hSD0) XM.out).mono ?_
      rintro e w6 ⟨rfl, b6⟩
      rw [HOK.out]
      go_simp
      refine hK.out _ _ (Below.then_ hSD0 b6) (fun hSD1 => ?_)
      clear hK K
      refine tq 2 rfl hSD1 ?_
      refine tq 3 rfl hSD1 ?_
      refine tq 4 rfl hSD1 ?_
      refine tq 5 rfl hSD1 ?_
      refine tq 6 rfl hSD1 ?_
      refine tq 7 rfl hSD1 ?_
      refine tq 8 rfl hSD1 ?_
      refine tq 9 rfl hSD1 ?_
      refine tq 10 rfl hSD1 ?_
      (refine tq 11 rfl hSD1 ?_ (fun w' hSw => by have z := loadPr_run w' pb (off + k * 3) y (range_under YR.out hSw); go_simp; try with_reducible rfl))
      (refine tq 12 rfl hSD1 ?_ (fun w' hSw => by have z := loadPr_run w' wr.heap.size 0 x (K5.out.under hSw).whole; go_simp; try with_reducible rfl))
      refine ry 13 rfl fun K hK => ?_
      go_simp
      refine (byKey_any w6 y x (YF5.out.below hSD1) (XF5.out.below hSD1)).mono ?_
      rintro e w7 ⟨rfl, b7⟩
      go_simp
      refine hK.out _ _ (Below.then_ hSD1 b7) (fun hSD2 => ?_)
      clear hK K
      refine tq 14 rfl hSD2 ?_
      refine tq 15 rfl hSD2 ?_
      refine tq 16 rfl hSD2 ?_
      refine wpAnyH_done (by kernel_rfl) ?_ _
      go_wp2_with fail
      go_ret
      exact ⟨by rw [HE.out]; rfl, Below.then_ B05.out hSD2⟩
  ·have HJ := hide (show j = n by omega)
   have i1 : ¬ (j : Int) < (n : Int) := by omega
   have HR := hide hr
   clear hr hb hlt
   go_wp2_with fail
   go_ret
   refine ⟨?_, HB.out⟩
   have hl : L.length ≤ j := by rw [HL.out, List.length_map, XR.out.1, HJ.out]; exact Nat.le_refl _
   rw [HR.out, List.drop_of_length_le hl]
   rfl
end
theorem text_app15 (x rest : List Int) (M : Nat) (hx : x.length ≤ M) (hM : M < 4294967296) : Rd.text ⟨txt x ++ rest, 0⟩ (M : Int) = (x, ⟨rest, 0⟩) := by
 have hp := peek_cnt x.length M (x ++ rest) (by omega) hx
 rw [← List.append_assoc] at hp
 have e : (max (M : Int) 0).toNat = M := by omega
 have h1 : ¬ (txt x ++ rest).length - (cnt x.length).length < x.length := by simp only [txt, List.length_append]; omega
 unfold Rd.text
 rw [show cnt x.length ++ x ++ rest = txt x ++ rest from rfl] at hp
 simp only [e, hp, ne_eq, not_true_eq_false, if_false, h1]
 simp [txt]
theorem flag_app (v : Int) (rest : List Int) (_ : 0 ≤ v) : Rd.fixed ⟨v :: rest, 0⟩ 1 = (v.toNat, ⟨rest, 0⟩) := by
 have h := fixed_append [v] rest 1 rfl (by decide)
 rw [show ([v] ++ rest) = v :: rest from rfl] at h
 rw [h]
 simp [num]
theorem pair_back (p : PairD) (h : p.okB = true) (rest : List Int) : Rd.pair ⟨p.bytes ++ rest, 0⟩ = some (p, ⟨rest, 0⟩) := by
 obtain ⟨_, h2, h3, h4⟩ := (okB_iff p).1 h
 obtain ⟨key, value, gone⟩ := p
 simp only at h2 h3 h4
 cases gone
 ·have e : (PairD.bytes ⟨key, value, false⟩ ++ rest) = txt key ++ (1 :: (txt value ++ rest)) := by simp [PairD.bytes]
  rw [e]
  have t1 : Rd.text ⟨txt key ++ (1 :: (txt value ++ rest)), 0⟩ 200 = _ := text_app15 key (1 :: (txt value ++ rest)) 200 h2 (by decide)
  have t2 := flag_app 1 (txt value ++ rest) (by decide)
  have t3 : Rd.text ⟨txt value ++ rest, 0⟩ 20000 = _ := text_app15 value rest 20000 h3 (by decide)
  simp [Rd.pair, t1, t2, t3]
 ·obtain rfl := h4 rfl
  have e : (PairD.bytes ⟨key, [], true⟩ ++ rest) = txt key ++ (0 :: rest) := by simp [PairD.bytes]
  rw [e]
  have t1 : Rd.text ⟨txt key ++ (0 :: rest), 0⟩ 200 = _ := text_app15 key (0 :: rest) 200 h2 (by decide)
  have t2 := flag_app 0 rest (by decide)
  simp [Rd.pair, t1, t2]
theorem pairs_back : ∀ (l : List PairD), (∀ p ∈ l, p.okB = true) → ∀ rest, Rd.pairs l.length ⟨l.flatMap PairD.bytes ++ rest, 0⟩ = some (l, ⟨rest, 0⟩)
 | [], _, rest => by simp [Rd.pairs]
 | p :: l, h, rest => by
  rw [List.flatMap_cons, List.append_assoc, List.length_cons, Rd.pairs]
  simp only [ne_eq, not_true_eq_false, if_false]
  rw [pair_back p (h p (by simp))]
  simp only
  rw [pairs_back l (fun q hq => h q (by simp [hq])) rest]
  rfl
theorem parse_back (l : List PairD) (h : rightB l = true) (hl : l.length ≤ 1048576) : parseP (bytesP l) = some l := by
 have hc := count_append l.length 1048576 (l.flatMap PairD.bytes) (by omega) hl
 have hp := pairs_back l (right_ok h) []
 rw [List.append_nil] at hp
 rw [parseP, bytesP, hc]
 simp only
 rw [hp, doneP]
 simp [h]
def psize (l : List PairD) : Nat := (l.map fun p => p.key.length + p.value.length).sum
theorem psize_cons (p : PairD) (l : List PairD) : psize (p :: l) = p.key.length + p.value.length + psize l := by simp [psize]
theorem psize_append (a b : List PairD) : psize (a ++ b) = psize a + psize b := by simp [psize]
theorem text_size (r : Rd) (M : Int) : (r.text M).1.length + (r.text M).2.rest.length ≤ r.rest.length := by
 unfold Rd.text
 split
 ·simp
 ·split
  ·simp
  ·split
   ·simp
   ·simp only [List.length_take, List.length_drop]; omega
theorem fixed_size (r : Rd) (n : Int) : (r.fixed n).2.rest.length ≤ r.rest.length := by
 unfold Rd.fixed Rd.raw
 simp only
 split
 ·simp
 ·split
  ·simp
  ·simp only [List.length_drop]; omega
theorem pair_size (r : Rd) (p : PairD) (r' : Rd) (h : r.pair = some (p, r')) : p.key.length + p.value.length + r'.rest.length ≤ r.rest.length := by
 have h1 := text_size r 200
 have h2 := fixed_size (r.text 200).2 1
 have h3 := text_size ((r.text 200).2.fixed 1).2 20000
 unfold Rd.pair at h
 split at h
 ·cases h
 ·split at h
  ·injection h with h
   injection h with e1 e2
   subst e1; subst e2
   simp only
   omega
  ·injection h with h
   injection h with e1 e2
   subst e1; subst e2
   simp only [List.length_nil]
   omega
theorem pairs_size : ∀ (n : Nat) (r : Rd) (l : List PairD) (r' : Rd), Rd.pairs n r = some (l, r') → psize l + r'.rest.length ≤ r.rest.length
 | 0, r, l, r', h => by
  simp [Rd.pairs] at h
  obtain ⟨rfl, rfl⟩ := h
  simp [psize]
 | n + 1, r, l, r', h => by
  unfold Rd.pairs at h
  split at h
  ·simp at h
   obtain ⟨rfl, rfl⟩ := h
   simp [psize]
  ·split at h
   ·cases h
   ·rename_i q hq
    cases hz : Rd.pairs n q.2 with
    | none => rw [hz] at h; cases h
    | some z =>
     rw [hz] at h
     simp at h
     obtain ⟨rfl, rfl⟩ := h
     have h1 := pairs_size n q.2 z.1 z.2 hz
     have h2 := pair_size r q.1 q.2 hq
     rw [psize_cons]
     omega
theorem count_size (r : Rd) (m : Nat) : (r.count m).2.rest.length ≤ r.rest.length := by
 unfold Rd.count
 split
 ·simp
 ·simp only [List.length_drop]; omega
theorem parse_some {b : List Int} {l : List PairD} (h : parseP b = some l) : rightB l = true ∧ psize l ≤ b.length := by
 unfold parseP at h
 have hc := count_size ⟨b, 0⟩ 1048576
 simp only at hc
 cases hz : Rd.pairs (Rd.count ⟨b, 0⟩ 1048576).1 (Rd.count ⟨b, 0⟩ 1048576).2 with
 | none => rw [hz] at h; cases h
 | some z =>
  rw [hz, doneP] at h
  have h1 := pairs_size _ _ z.1 z.2 hz
  split at h
  ·cases h
  ·rename_i hn
   injection h with h
   subst h
   simp only [not_or, Bool.not_eq_false] at hn
   exact ⟨hn.2.2, by omega⟩
theorem right_len {l : List PairD} (h : rightB l = true) : l.length ≤ psize l := by
 have key : ∀ m : List PairD, (∀ p ∈ m, p.okB = true) → m.length ≤ psize m := by
  intro m
  induction m with
  | nil => simp [psize]
  | cons p m ih =>
   intro hm
   have h1 := ih fun q hq => hm q (by simp [hq])
   have h2 := ((okB_iff p).1 (hm p (by simp))).1
   rw [psize_cons, List.length_cons]
   omega
 exact key l (right_ok h)
theorem merge_size : ∀ (l c : List PairD), psize (mergeD l c) ≤ psize l + psize c := by
 intro l c
 induction l, c using mergeD.induct with
 | case1 l => rw [mergeD]; omega
 | case2 c cs ih =>
  rw [mergeD, psize_append, psize_cons]
  have : psize (if c.gone = true then [] else [c]) ≤ c.key.length + c.value.length := by split <;> simp [psize]
  omega
 | case3 p l c cs hlt ih =>
  rw [mergeD, if_pos hlt, psize_cons, psize_cons]
  omega
 | case4 p l c cs hlt ih =>
  rw [mergeD, if_neg hlt, psize_append, psize_cons (p := c), psize_cons]
  have h1 : psize (if c.gone = true then [] else [c]) ≤ c.key.length + c.value.length := by split <;> simp [psize]
  have h2 : psize (restP p l c) ≤ p.key.length + p.value.length + psize l := by
   unfold restP
   split
   ·omega
   ·rw [psize_cons]; omega
  omega
theorem toldR_some : ∀ (bs : List (List Int)) (out l : List PairD), rightB out = true → goneIn out = false → toldR out bs = some l → rightB l = true ∧ goneIn l = false ∧ psize l ≤ psize out + (bs.map List.length).sum
 | [], out, l, h, k, e => by
  simp [toldR] at e
  subst e
  exact ⟨h, k, by simp⟩
 | b :: bs, out, l, h, k, e => by
  unfold toldR at e
  cases hp : parseP b with
  | none => rw [hp] at e; cases e
  | some m =>
   rw [hp] at e
   simp only at e
   obtain ⟨p1, p2⟩ := parse_some hp
   obtain ⟨q1, q2, q3⟩ := toldR_some bs (mergeD out m) l (mergeD_right h p1) (mergeD_here m k) e
   have := merge_size out m
   refine ⟨q1, q2, ?_⟩
   simp only [List.map_cons, List.sum_cons]
   omega
theorem toldL_some (bs : List (List Int)) : rightB (toldL bs).1 = true ∧ goneIn (toldL bs).1 = false ∧ psize (toldL bs).1 ≤ (bs.map List.length).sum := by
 have h0 : rightB [] = true ∧ goneIn [] = false ∧ psize [] = 0 := ⟨rfl, rfl, rfl⟩
 cases bs with
 | nil => exact ⟨rfl, rfl, Nat.zero_le _⟩
 | cons b bs =>
  have e : toldL (b :: bs) = match parseP b with | none => ([], 151) | some l => if goneIn l then ([], 151) else orErr (toldR l bs) := rfl
  rw [e]
  cases hp : parseP b with
  | none => exact ⟨rfl, rfl, Nat.zero_le _⟩
  | some m =>
   obtain ⟨p1, p2⟩ := parse_some hp
   simp only
   by_cases hg : goneIn m = true
   ·rw [if_pos hg]; exact ⟨rfl, rfl, Nat.zero_le _⟩
   ·rw [if_neg hg]
    cases hr : toldR m bs with
    | none => exact ⟨rfl, rfl, Nat.zero_le _⟩
    | some l =>
     obtain ⟨q1, q2, q3⟩ := toldR_some bs m l p1 (by simpa using hg) hr
     refine ⟨q1, q2, ?_⟩
     show psize l ≤ _
     simp only [List.map_cons, List.sum_cons]
     omega
theorem bytes_one (p : PairD) : p.bytes.length ≤ p.key.length + p.value.length + 20 := by
 have h1 := (cnt_length p.key.length).2
 have h2 := (cnt_length p.value.length).2
 unfold PairD.bytes txt
 split <;> simp only [List.length_append, List.length_cons, List.length_nil] <;> omega
theorem flat_len (l : List PairD) : (l.flatMap PairD.bytes).length ≤ psize l + 20 * l.length := by
 induction l with
 | nil => simp [psize]
 | cons p l ih =>
  have := bytes_one p
  rw [List.flatMap_cons, List.length_append, psize_cons, List.length_cons]
  omega
theorem bytesP_len (l : List PairD) : (bytesP l).length ≤ 9 + psize l + 20 * l.length := by
 have h1 := (cnt_length l.length).2
 have h2 := flat_len l
 rw [bytesP, List.length_append]
 omega
theorem tbytes_len (l : List PairD) : (tbytes l).1.length ≤ 9 + psize l + 20 * l.length := by
 unfold tbytes
 split
 ·exact bytesP_len l
 ·simp
theorem bodies_sum : ∀ (k : Nat) (b : List Int) (kd : Int) (s : List Int), ((bodies k b kd s).map List.length).sum ≤ b.length
 | 0, b, kd, s => by simp [bodies]
 | k + 1, b, kd, s => by
  rw [bodies]
  split
  ·simp
  ·cases hn : nextR b kd s with
   | none => simp
   | some q =>
    obtain ⟨body, t⟩ := q
    have h1 := nextR_fits hn
    have h2 := bodies_sum k (b.drop (slabsN (body.length : Int) * 120)) 2 t
    have h3 := slabsN_nat body.length h1.2.1
    simp only [List.map_cons, List.sum_cons]
    rw [List.length_drop] at h2
    omega
theorem areaFrom_le (d : Dev) (half mark : Nat) : ∀ (k i : Nat), (areaFrom d half mark k i).length ≤ 120 * k
 | 0, _ => by simp [areaFrom]
 | k + 1, i => by
  rw [areaFrom]
  split
  ·have := areaFrom_le d half mark k (i + 1)
   rw [List.length_append, List.length_take]
   omega
  ·simp
theorem stands_sum (d : Dev) (half : Nat) (hg : d.Good) : (((stands d half).2).map List.length).sum ≤ 245760 := by
 unfold stands
 split
 ·simp
 ·have h1 := bodies_sum ((area d half (header d half).1).length + 1) (area d half (header d half).1) 1 (header d half).2
  have h2 := areaFrom_le d half (header d half).1 (d.room - 1) 1
  have h3 : d.room ≤ 2048 := by have := hg.few; unfold Dev.room; omega
  simp only
  unfold area at h1 ⊢
  omega
theorem openL_sum (d : Dev) (hg : d.Good) : ((openL d).2.map List.length).sum ≤ 245760 := by
 unfold openL
 split
 ·exact stands_sum d 0 hg
 ·exact stands_sum d 1 hg
theorem toldT_some (d : Dev) (hg : d.Good) : rightB (toldT d).1 = true ∧ goneIn (toldT d).1 = false ∧ psize (toldT d).1 ≤ 245760 := by
 obtain ⟨h1, h2, h3⟩ := toldL_some (openL d).2
 exact ⟨h1, h2, Nat.le_trans h3 (openL_sum d hg)⟩
section
theorem psize_mem {l : List PairD} {p : PairD} (h : p ∈ l) : p.key.length + p.value.length ≤ psize l := by
 induction l with
 | nil => cases h
 | cons q l ih =>
  rw [psize_cons]
  rcases List.mem_cons.1 h with e | h
  ·rw [e]; omega
  ·have := ih h; omega
theorem pflat_take (l : List PairD) (j : Nat) : ((l.take j).flatMap PairD.bytes).length ≤ (l.flatMap PairD.bytes).length := by
 have e : l.flatMap PairD.bytes = (l.take j).flatMap PairD.bytes ++ (l.drop j).flatMap PairD.bytes := by rw [← List.flatMap_append, List.take_append_drop]
 rw [e, List.length_append]; omega
theorem pflat_step {l : List PairD} {j : Nat} {p : PairD} (h : l[j]? = some p) : (l.take (j + 1)).flatMap PairD.bytes = (l.take j).flatMap PairD.bytes ++ p.bytes := by
 rw [List.take_add_one, h]; simp
theorem Byss.mk1 {w : World} {g : Nat} {A : Option Addr} {n c : Nat} {x : List Int} (h : w.cell? ⟨g, 0, none⟩ = some (.slice A n c)) (hB : Bys w A n x) (hc : n ≤ c) : Byss w (some ⟨g, 0, none⟩) 1 [x] := by
 refine ⟨rfl, fun _ => ⟨g, 0, rfl, fun j xs hj => ?_⟩⟩
 rcases j with _ | j
 ·simp at hj; subst hj; exact ⟨A, n, c, h, hB, hc⟩
 ·simp at hj
def PBytesPost (w : World) (r : List Int × Int) (e : Ending) (w' : World) : Prop :=
 ∃ (A : Option Addr) (m c : Nat), e = .returned (.tuple #[.slice A m c, .int .i64 r.2]) ∧ Mine 5 w w' A m c r.1 ∧ Fr w A
attribute [local go_sem ↓] loadPr_fold
theorem PBytes_any (w : World) (A : Option Addr) (n c : Nat) (xs : List PairV) (hX : PairsIn w A n xs) (hn : n ≤ 10000000) (hs : psize (xs.map PairV.d) ≤ 100000000) :
  Calls Tryz.prog 25 #[.slice A n c] w (PBytesPost w (tbytes (xs.map PairV.d))) := by
 have HX := hide hX
 have n9 : (n : Int) ≤ 10000000 := by omega
 obtain ⟨L, hL⟩ : ∃ L, L = xs.map PairV.d := ⟨_, rfl⟩
 have HL := hide hL
 rw [← hL] at hs ⊢
 have HLN := hide (show L.length = n by rw [hL, List.length_map, hX.1])
 have hm : ∀ p ∈ xs, p.kN ≤ 1000000000000 ∧ p.vN ≤ 1000000000000 := fun p hp => by
  have h1 := psize_mem (l := L) (p := p.d) (by rw [hL]; exact List.mem_map_of_mem hp)
  have h2 := (hX.2.1 p hp).key.1
  have h3 := (hX.2.1 p hp).value.1
  simp only [PairV.d] at h1
  omega
 have hbt := hide (batch_any w A n c xs hX (by omega) hm)
 rw [← hL] at hbt
 have HLEN := hide (fun j : Nat => (by
  have h1 := pflat_take L j
  have h2 := flat_len L
  have h3 := (cnt_length L.length).2
  have h4 := HLN.out
  rw [List.length_append]
  omega : (cnt L.length ++ (L.take j).flatMap PairD.bytes).length ≤ 300000010))
 clear hX hn hs hm hL
 cases hr : rightB L with
 | false =>
  have HE := hide (show tbytes L = ([], 151) by rw [tbytes, hr]; rfl)
  rw [hr] at hbt
  clear hr
  go_enter Tryz.func25, Tryz.ntmps25
  go_wp2_with fail
  refine hbt.out.mono ?_
  rintro e w1 ⟨rfl, b1⟩
  have B1 := hide b1
  clear b1
  go_wp2_with fail
  go_ret2
  rw [HE.out]
  exact ⟨none, 0, 0, rfl, Mine.nil B1.out none, Fr.none w⟩
 | true =>
  have HE := hide (show tbytes L = (bytesP L, 0) by rw [tbytes, hr]; rfl)
  have HOK := hide (right_ok hr)
  rw [hr] at hbt
  clear hr
  go_enter Tryz.func25, Tryz.ntmps25
  go_wp2_with fail
  refine hbt.out.mono ?_
  rintro e w1 ⟨rfl, b1⟩
  have B1 := hide b1
  have n8 : (0 : Int) ≤ (n : Int) := by omega
  have hw : IntKind.u64.wrap (n : Int) = (n : Int) := by rw [IntKind.wrap_u64]; omega
  clear b1 hbt
  go_wp2_with fail
  refine (Count_any w w1 none 0 0 [] (n : Int) B1.out (Bys.nil _ _) (Nat.le_refl _) n8 (by omega) (by omega)).mono ?_
  rintro e w2 hp
  obtain ⟨A2, n2, c2, rfl, t2, f2⟩ := hp.fresh
  have T2 := hide t2
  have F2 := hide f2
  have B2 := hide t2.below
  clear hp t2 f2
  go_wp2_with fail
  go_loopw [4, 16] (fun b i wr => ∃ (j : Nat) (A' : Option Addr) (n' c' : Nat), j ≤ n ∧ i = .int .i64 (j : Int) ∧ b = .slice A' n' c' ∧ Mine 5 w wr A' n' c' (cnt L.length ++ (L.take j).flatMap PairD.bytes) ∧ Fr w A') (fun _ i _ => n - (intOf i).toNat)
  case atStart => exact ⟨0, A2, n2, c2, by omega, rfl, rfl, by have := T2.out; rw [HLN.out]; simpa using this, F2.out⟩
  case round =>
   obtain ⟨j, A4, n4, c4, hj, rfl, rfl, ht, hf⟩ := hrel
   have HT := hide ht
   have HF := hide hf
   have XR := hide (HX.out.below' ht.below)
   have HN4 := hide (show n4 ≤ 300000010 by rw [← ht.len]; exact HLEN.out j)
   by_cases hlt : j < n
   ·obtain ⟨pb, off, hpa, hrow⟩ := XR.out.2.2 (by omega)
    subst hpa
    obtain ⟨x, hx⟩ : ∃ x, xs[j]? = some x := ⟨_, List.getElem?_eq_getElem (by rw [XR.out.1]; exact hlt)⟩
    have XF := hide (XR.out.2.1 x (List.mem_of_getElem? hx))
    have hld := loadPr_run wr pb (off + j * 3) x (hrow j x hx)
    have HLT := hide hlt
    have HXL := hide (show L[j]? = some x.d by rw [HL.out]; exact pmap_get hx)
    have HXO := hide ((okB_iff _).1 (HOK.out x.d (List.mem_of_getElem? HXL.out)))
    have i0 : (0 : Int) ≤ (j : Int) := by omega
    have i1 : (j : Int) < (n : Int) := by omega
    have HST := hide (pflat_step HXL.out)
    clear ht hf hx hlt hrow hj
    go_wp2_with (first
     | (refine wpList_alloc_agg rfl 59 rfl zeroPr zeroPr_info ?_; simp only [pU])
     | (refine pr_store rfl _ _ rfl wr rfl (by rfl) x (by rfl) ?_; intro w5 b5 s5 k5; have B5 := hide b5; have K5 := hide k5; have S5 := hide s5; have y0 := k5.c0; have y1 := k5.c1; have y2 := k5.c2; clear b5 s5 k5 hld; simp only [Act.put]))
    obtain ⟨V, hV⟩ : ∃ z, z = w5.alloc (.cells #[.slice x.kA x.kN x.kC] 23) := ⟨_, rfl⟩
    have B5V := hide (show Below w5.heap.size w5 V by rw [hV]; exact below_alloc (Below.refl _ _) _)
    have BV := hide (Below.then_ B5.out B5V.out)
    have KV := hide (K5.out.under B5V.out)
    have XFV := hide (XF.out.below BV.out)
    have HTV := hide (HT.out.keep BV.out)
    have HYV := hide (show Byss V (some ⟨w5.heap.size, 0, none⟩) 1 [x.key] by rw [hV]; exact Byss.one w5 w5 23 x.kA x.kN x.kC x.key (XF.out.key.below B5.out) XF.out.kcap (Below.refl _ _))
    rw [← hV]
    clear hV y0 y1 y2
    refine (Text_any V V A4 n4 c4 _ _ 1 1 [x.key] (Below.refl _ _) HTV.out.bys HYV.out (by have := HN4.out; omega) (by decide) (by intro z hz; have h1 := HXO.out.2.1; rw [List.mem_singleton.1 hz]; simp only [PairV.d] at h1; omega)).mono ?_
    rintro e w6 hp
    obtain ⟨A6, n6, c6, rfl, t6, f6⟩ := hp.fresh
    have T6 := hide t6
    have F6 := hide f6
    have B6 := hide t6.below
    have K6 := hide (KV.out.under t6.below)
    have HN6 := hide (show n6 ≤ 300000500 by
     have h1 := t6.len
     have h2 := HXO.out.2.1
     have h3 := HLEN.out j
     have h4 := (cnt_length x.key.length).2
     simp only [PairV.d] at h2
     simp only [List.length_append, List.flatMap_cons, List.flatMap_nil, List.append_nil, txt] at h1 h3
     omega)
    clear hp t6 f6
    have y2 := K6.out.c2
    cases hg : x.gone with
    | true =>
     rw [hg] at y2
     have HG := hide hg
     clear hg
     go_wp2_with (at_builtin; refine wpList_app rfl _ _ rfl w A6 n6 c6 (cnt L.length ++ (L.take j).flatMap PairD.bytes ++ [x.key].flatMap txt) (by rfl) ((T6.out.older (Below.then_ HT.out.below BV.out)).alloc _) (some ⟨w6.heap.size, 0, none⟩) 1 1 [0] (by rfl) (Bys.one w6 5 0 (by decide) (by decide)) (by have := HN6.out; omega) ?_; intro A7 n7 c7 w7 t7 f7; have T7 := hide t7; have F7 := hide (f7 (.inr (by decide))); clear t7 f7; simp only [pU])
     refine ⟨⟨j + 1, A7, n7, c7, by have := HLT.out; omega, by go_num, rfl, ?_, F7.out⟩, by have := HLT.out; simp [intOf]; omega⟩
     have h9 := T7.out
     rw [HST.out]
     have e : (cnt L.length ++ ((L.take j).flatMap PairD.bytes ++ x.d.bytes)) = cnt L.length ++ (L.take j).flatMap PairD.bytes ++ [x.key].flatMap txt ++ [0] := by simp [PairD.bytes, PairV.d, HG.out]
     rw [e]
     exact h9
    | false =>
     rw [hg] at y2
     have HG := hide hg
     clear hg
     go_wp2_with fail
     clear y2
     refine wp_region_held_drew (S := fun w' => Below V.heap.size V w') (by kernel_rfl) (B6.out.drew) (fun hSA0 => ?_)
     obtain ⟨w6d, hwA⟩ : ∃ x, x = w6.drew := ⟨_, rfl⟩
     rw [← hwA] at hSA0 ⊢
     have BW := hide (show Below w6.heap.size w6 w6d by rw [hwA]; exact (Below.refl _ _).drew)
     clear hwA
     refine tq 0 rfl hSA0 ?_
     refine tq 3 rfl hSA0 ?_
     (refine tq 4 rfl hSA0 ?_ (fun w' hSw => by have z := (KV.out.under hSw).c1; go_simp; try with_reducible rfl))
     refine wpAnyH_ready (rs := [1, 5]) (by kernel_rfl) (by simp) ?_
     refine AllReadyH.cons rfl (fun K hK => ?_) (AllReadyH.cons rfl (fun K hK => ?_) AllReadyH.nil)
     ·go_simp
      obtain ⟨ga, hga⟩ : ∃ z, z = w6d.heap.size := ⟨_, rfl⟩
      obtain ⟨wA, hwA⟩ : ∃ z, z = w6d.alloc (.cells #[.int .u8 1] 5) := ⟨_, rfl⟩
      have YA := hide (show Bys wA (some ⟨ga, 0, none⟩) 1 [1] by rw [hwA, hga]; exact Bys.one w6d _ 1 (by decide) (by decide))
      have BA := hide (show Below w6d.heap.size w6d wA by rw [hwA]; exact below_alloc (Below.refl _ _) _)
      rw [← hwA, ← hga]
      clear hwA hga
      have BW := hide (Below.then_ BW.out BA.out)
      try have YB := hide (cell_under BA.out YB.out)
      refine hK.out _ _ (Below.then_ hSA0 BA.out) (fun hSA1 => ?_)
      clear hK K
      refine wpAnyH_ready (rs := [2, 5]) (by kernel_rfl) (by simp) ?_
      refine AllReadyH.cons rfl (fun K hK => ?_) (AllReadyH.cons rfl (fun K hK => ?_) AllReadyH.nil)
      ·refine step_app3 rfl 32 rfl _ _ rfl V w6 A6 n6 c6 (cnt L.length ++ (L.take j).flatMap PairD.bytes ++ [x.key].flatMap txt) (by rfl) T6.out BW.out (some ⟨ga, 0, none⟩) 1 1 [1] (by rfl) YA.out (by have := HN6.out; omega) ?_
       intro A9 n9 c9 w9 m9 o9 f9
       have M9 := hide m9
       try have YB := hide ((World.cell?_of_block (w := wA) (o9.block gb (World.block_lt_of_cell? wA _ YB.out) (fun e => by have h1 := e.2; have h2 := GB.out; omega))).trans YB.out)
       clear m9 o9 f9 BW YA
       simp only [pU]
       refine hK.out _ _ (M9.out.below) (fun hSA2 => ?_)
       clear hK K
       refine ry 5 rfl fun K hK => ?_
       go_simp
       obtain ⟨gb, hgb⟩ : ∃ z, z = w9.heap.size := ⟨_, rfl⟩
       obtain ⟨wB, hwB⟩ : ∃ z, z = w9.alloc (.cells #[.slice x.vA x.vN x.vC] 23) := ⟨_, rfl⟩
       have YB := hide (show wB.cell? ⟨gb, 0, none⟩ = some (.slice x.vA x.vN x.vC) by rw [hwB, hgb]; exact (Blk.new w9 _ [.slice x.vA x.vN x.vC]).c0)
       have GB := hide (show w9.heap.size ≤ gb by rw [hgb]; exact Nat.le_refl _)
       have BB := hide (show Below w9.heap.size w9 wB by rw [hwB]; exact below_alloc (Below.refl _ _) _)
       rw [← hwB, ← hgb]
       clear hwB hgb
       try have GB := hide (Nat.le_trans BW.out.size GB.out)
       try have BW := hide (Below.then_ BW.out BB.out)
       try have YA := hide (YA.out.below BB.out)
       try have M9 := hide (M9.out.keep BB.out)
       refine hK.out _ _ (Below.then_ hSA2 BB.out) (fun hSA3 => ?_)
       clear hK K
       refine ry 6 rfl fun K hK => ?_
       go_simp
       refine (Text_any V wB A9 n9 c9 _ _ 1 1 [x.value] hSA3 M9.out.bys (Byss.mk1 YB.out (XFV.out.value.below hSA3) XFV.out.vcap) (by have h1 := M9.out.len; have h2 := T6.out.len; have h3 := HN6.out; simp only [List.length_append, List.length_singleton] at h1 h2; omega) (by decide) (by intro z hz; have h1 := HXO.out.2.2.1; rw [List.mem_singleton.1 hz]; simp only [PairV.d] at h1; omega)).mono ?_
       rintro e w10 hp
       obtain ⟨A10, n10, c10, rfl, t10, f10⟩ := hp.fresh
       have T10 := hide t10
       have F10 := hide f10
       clear hp t10 f10
       go_simp
       refine hK.out _ _ (T10.out.below) (fun hSA4 => ?_)
       clear hK K
       refine tq 7 rfl hSA4 ?_
       refine wpAnyH_done (by kernel_rfl) ?_ _
       go_wp2_with fail
       have BV0 := Below.then_ HT.out.below BV.out
       refine ⟨⟨j + 1, A10, n10, c10, by have := HLT.out; omega, by go_num, rfl, ?_, F10.out.older BV0⟩, by have := HLT.out; simp [intOf]; omega⟩
       have h9 := T10.out.older BV0
       rw [HST.out]
       have e : (cnt L.length ++ ((L.take j).flatMap PairD.bytes ++ x.d.bytes)) = cnt L.length ++ (L.take j).flatMap PairD.bytes ++ [x.key].flatMap txt ++ [1] ++ [x.value].flatMap txt := by simp [PairD.bytes, PairV.d, HG.out]
       rw [e]
       exact h9
      ·go_simp
       obtain ⟨gb, hgb⟩ : ∃ z, z = wA.heap.size := ⟨_, rfl⟩
       obtain ⟨wB, hwB⟩ : ∃ z, z = wA.alloc (.cells #[.slice x.vA x.vN x.vC] 23) := ⟨_, rfl⟩
       have YB := hide (show wB.cell? ⟨gb, 0, none⟩ = some (.slice x.vA x.vN x.vC) by rw [hwB, hgb]; exact (Blk.new wA _ [.slice x.vA x.vN x.vC]).c0)
       have GB := hide (show wA.heap.size ≤ gb by rw [hgb]; exact Nat.le_refl _)
       have BB := hide (show Below wA.heap.size wA wB by rw [hwB]; exact below_alloc (Below.refl _ _) _)
       rw [← hwB, ← hgb]
       clear hwB hgb
       try have GB := hide (Nat.le_trans BW.out.size GB.out)
       try have BW := hide (Below.then_ BW.out BB.out)
       try have YA := hide (YA.out.below BB.out)
       try have M9 := hide (M9.out.keep BB.out)
       refine hK.out _ _ (Below.then_ hSA1 BB.out) (fun hSA2 => ?_)
       clear hK K
       refine ry 2 rfl fun K hK => ?_
       refine step_app3 rfl 32 rfl _ _ rfl V w6 A6 n6 c6 (cnt L.length ++ (L.take j).flatMap PairD.bytes ++ [x.key].flatMap txt) (by rfl) T6.out BW.out (some ⟨ga, 0, none⟩) 1 1 [1] (by rfl) YA.out (by have := HN6.out; omega) ?_
       intro A9 n9 c9 w9 m9 o9 f9
       have M9 := hide m9
       try have YB := hide ((World.cell?_of_block (w := wB) (o9.block gb (World.block_lt_of_cell? wB _ YB.out) (fun e => by have h1 := e.2; have h2 := GB.out; omega))).trans YB.out)
       clear m9 o9 f9 BW YA
       simp only [pU]
       refine hK.out _ _ (M9.out.below) (fun hSA3 => ?_)
       clear hK K
       refine ry 6 rfl fun K hK => ?_
       go_simp
       refine (Text_any V w9 A9 n9 c9 _ _ 1 1 [x.value] hSA3 M9.out.bys (Byss.mk1 YB.out (XFV.out.value.below hSA3) XFV.out.vcap) (by have h1 := M9.out.len; have h2 := T6.out.len; have h3 := HN6.out; simp only [List.length_append, List.length_singleton] at h1 h2; omega) (by decide) (by intro z hz; have h1 := HXO.out.2.2.1; rw [List.mem_singleton.1 hz]; simp only [PairV.d] at h1; omega)).mono ?_
       rintro e w10 hp
       obtain ⟨A10, n10, c10, rfl, t10, f10⟩ := hp.fresh
       have T10 := hide t10
       have F10 := hide f10
       clear hp t10 f10
       go_simp
       refine hK.out _ _ (T10.out.below) (fun hSA4 => ?_)
       clear hK K
       refine tq 7 rfl hSA4 ?_
       refine wpAnyH_done (by kernel_rfl) ?_ _
       go_wp2_with fail
       have BV0 := Below.then_ HT.out.below BV.out
       refine ⟨⟨j + 1, A10, n10, c10, by have := HLT.out; omega, by go_num, rfl, ?_, F10.out.older BV0⟩, by have := HLT.out; simp [intOf]; omega⟩
       have h9 := T10.out.older BV0
       rw [HST.out]
       have e : (cnt L.length ++ ((L.take j).flatMap PairD.bytes ++ x.d.bytes)) = cnt L.length ++ (L.take j).flatMap PairD.bytes ++ [x.key].flatMap txt ++ [1] ++ [x.value].flatMap txt := by simp [PairD.bytes, PairV.d, HG.out]
       rw [e]
       exact h9
     ·go_simp
      obtain ⟨gb, hgb⟩ : ∃ z, z = w6d.heap.size := ⟨_, rfl⟩
      obtain ⟨wB, hwB⟩ : ∃ z, z = w6d.alloc (.cells #[.slice x.vA x.vN x.vC] 23) := ⟨_, rfl⟩
      have YB := hide (show wB.cell? ⟨gb, 0, none⟩ = some (.slice x.vA x.vN x.vC) by rw [hwB, hgb]; exact (Blk.new w6d _ [.slice x.vA x.vN x.vC]).c0)
      have GB := hide (show w6d.heap.size ≤ gb by rw [hgb]; exact Nat.le_refl _)
      have BB := hide (show Below w6d.heap.size w6d wB by rw [hwB]; exact below_alloc (Below.refl _ _) _)
      rw [← hwB, ← hgb]
      clear hwB hgb
      try have GB := hide (Nat.le_trans BW.out.size GB.out)
      try have BW := hide (Below.then_ BW.out BB.out)
      try have YA := hide (YA.out.below BB.out)
      try have M9 := hide (M9.out.keep BB.out)
      refine hK.out _ _ (Below.then_ hSA0 BB.out) (fun hSA1 => ?_)
      clear hK K
      refine ry 1 rfl fun K hK => ?_
      go_simp
      obtain ⟨ga, hga⟩ : ∃ z, z = wB.heap.size := ⟨_, rfl⟩
      obtain ⟨wA, hwA⟩ : ∃ z, z = wB.alloc (.cells #[.int .u8 1] 5) := ⟨_, rfl⟩
      have YA := hide (show Bys wA (some ⟨ga, 0, none⟩) 1 [1] by rw [hwA, hga]; exact Bys.one wB _ 1 (by decide) (by decide))
      have BA := hide (show Below wB.heap.size wB wA by rw [hwA]; exact below_alloc (Below.refl _ _) _)
      rw [← hwA, ← hga]
      clear hwA hga
      have BW := hide (Below.then_ BW.out BA.out)
      try have YB := hide (cell_under BA.out YB.out)
      refine hK.out _ _ (Below.then_ hSA1 BA.out) (fun hSA2 => ?_)
      clear hK K
      refine ry 2 rfl fun K hK => ?_
      refine step_app3 rfl 32 rfl _ _ rfl V w6 A6 n6 c6 (cnt L.length ++ (L.take j).flatMap PairD.bytes ++ [x.key].flatMap txt) (by rfl) T6.out BW.out (some ⟨ga, 0, none⟩) 1 1 [1] (by rfl) YA.out (by have := HN6.out; omega) ?_
      intro A9 n9 c9 w9 m9 o9 f9
      have M9 := hide m9
      try have YB := hide ((World.cell?_of_block (w := wA) (o9.block gb (World.block_lt_of_cell? wA _ YB.out) (fun e => by have h1 := e.2; have h2 := GB.out; omega))).trans YB.out)
      clear m9 o9 f9 BW YA
      simp only [pU]
      refine hK.out _ _ (M9.out.below) (fun hSA3 => ?_)
      clear hK K
      refine ry 6 rfl fun K hK => ?_
      go_simp
      refine (Text_any V w9 A9 n9 c9 _ _ 1 1 [x.value] hSA3 M9.out.bys (Byss.mk1 YB.out (XFV.out.value.below hSA3) XFV.out.vcap) (by have h1 := M9.out.len; have h2 := T6.out.len; have h3 := HN6.out; simp only [List.length_append, List.length_singleton] at h1 h2; omega) (by decide) (by intro z hz; have h1 := HXO.out.2.2.1; rw [List.mem_singleton.1 hz]; simp only [PairV.d] at h1; omega)).mono ?_
      rintro e w10 hp
      obtain ⟨A10, n10, c10, rfl, t10, f10⟩ := hp.fresh
      have T10 := hide t10
      have F10 := hide f10
      clear hp t10 f10
      go_simp
      refine hK.out _ _ (T10.out.below) (fun hSA4 => ?_)
      clear hK K
      refine tq 7 rfl hSA4 ?_
      refine wpAnyH_done (by kernel_rfl) ?_ _
      go_wp2_with fail
      have BV0 := Below.then_ HT.out.below BV.out
      refine ⟨⟨j + 1, A10, n10, c10, by have := HLT.out; omega, by go_num, rfl, ?_, F10.out.older BV0⟩, by have := HLT.out; simp [intOf]; omega⟩
      have h9 := T10.out.older BV0
      rw [HST.out]
      have e : (cnt L.length ++ ((L.take j).flatMap PairD.bytes ++ x.d.bytes)) = cnt L.length ++ (L.take j).flatMap PairD.bytes ++ [x.key].flatMap txt ++ [1] ++ [x.value].flatMap txt := by simp [PairD.bytes, PairV.d, HG.out]
      rw [e]
      exact h9
   ·have HJ := hide (show j = n by omega)
    have i1 : ¬ (j : Int) < (n : Int) := by omega
    clear ht hf hlt
    go_wp2_with fail
    go_ret2
    rw [HE.out]
    refine ⟨A4, n4, c4, rfl, ?_, HF.out⟩
    have h9 := HT.out
    rw [HJ.out, List.take_of_length_le (by rw [HLN.out]; exact Nat.le_refl _)] at h9
    exact h9
end
section
def KeepP (w : World) (p : PairV) (F : Nat → Prop) : Prop := ∀ w', Only F w w' → p.Fine w'
theorem KeepP.fine {w : World} {p : PairV} {F : Nat → Prop} (h : KeepP w p F) : p.Fine w := h w (Only.refl _ _)
theorem KeepP.step {w w' : World} {p : PairV} {F F' : Nat → Prop} (h : KeepP w p F) (ho : Only F w w') (hF : ∀ i, i < w.heap.size → F' i → F i) : KeepP w' p F' := fun w'' h2 => h w'' (ho.trans h2 hF)
theorem KeepP.mono {w : World} {p : PairV} {F G : Nat → Prop} (h : KeepP w p F) (hG : ∀ i, i < w.heap.size → G i → F i) : KeepP w p G := h.step (Only.refl _ _) hG
theorem KeepP.mk {w : World} {p : PairV} {F : Nat → Prop} (h : p.Fine w) (hk : Apart p.kA p.kN F) (hv : Apart p.vA p.vN F) : KeepP w p F := fun _ ho => ⟨h.key.keep ho hk, h.kcap, h.value.keep ho hv, h.vcap⟩
theorem KeepP.new {w0 w : World} {p : PairV} {F : Nat → Prop} (h : p.Fine w) (hk : Fr w0 p.kA) (hv : Fr w0 p.vA) (hF : ∀ i, F i → i < w0.heap.size) : KeepP w p F :=
 KeepP.mk h (fun _ ad e hf => by have h1 := hk ad e; have h2 := hF _ hf; omega) (fun _ ad e hf => by have h1 := hv ad e; have h2 := hF _ hf; omega)
def PKeep (w : World) (F : Nat → Prop) (A : Option Addr) (n : Nat) (xs : List PairV) : Prop := ∀ w', Only F w w' → PairsIn w' A n xs
namespace PKeep
variable {w w' : World} {F G : Nat → Prop} {A : Option Addr} {n : Nat} {xs : List PairV}
theorem in_ (h : PKeep w F A n xs) : PairsIn w A n xs := h w (Only.refl _ _)
theorem step (h : PKeep w F A n xs) (ho : Only F w w') (hF : ∀ i, i < w.heap.size → G i → F i) : PKeep w' G A n xs := fun w'' h2 => h w'' (ho.trans h2 hF)
theorem under (h : PKeep w F A n xs) (hb : Below w.heap.size w w') : PKeep w' F A n xs := h.step (Only.of_below hb F) fun _ _ h => h
theorem mono (h : PKeep w F A n xs) (hG : ∀ i, i < w.heap.size → G i → F i) : PKeep w G A n xs := h.step (Only.refl _ _) hG
theorem nil (w : World) (F : Nat → Prop) (A : Option Addr) : PKeep w F A 0 [] := fun _ _ => RowsIn.nil _ _ _ _ _
end PKeep
structure PRow (base : Nat) (w : World) (A : Option Addr) (n c : Nat) (xs : List PairV) : Prop where
 len : xs.length = n
 cap : n ≤ c
 low : base ≤ w.heap.size
 row : w.ownsRow base 59 3 (.slice A n c) n (xs.flatMap PairV.cells)
 keep : ∀ x ∈ xs, KeepP w x (fun i => i < base ∨ (Value.slice A n c).ownBlock = some i)
namespace PRow
variable {base : Nat} {w w' : World} {A : Option Addr} {n c : Nat} {xs : List PairV}
theorem nil (h : base ≤ w.heap.size) : PRow base w none 0 0 [] := ⟨rfl, Nat.le_refl _, h, World.ownsRow_nil _ _ _ _, by simp⟩
theorem step (h : PRow base w A n c xs) {F : Nat → Prop} (ho : Only F w w') (hF : ∀ i, i < w.heap.size → F i → i < base) : PRow base w' A n c xs :=
 ⟨h.len, h.cap, Nat.le_trans h.low ho.size, ho.own h.row (fun g hg hf => by have := hF g (h.row.lt g hg).2 hf; have := (h.row.lt g hg).1; omega), fun x hx => (h.keep x hx).step (ho.mono fun i hi hf => .inl (hF i hi hf)) fun _ _ h => h⟩
theorem under (h : PRow base w A n c xs) (hb : Below w.heap.size w w') : PRow base w' A n c xs := h.step (Only.of_below hb fun _ => False) fun _ _ h => h.elim
theorem fine (h : PRow base w A n c xs) : ∀ x ∈ xs, x.Fine w := fun x hx => (h.keep x hx).fine
theorem in_ (h : PRow base w A n c xs) : PairsIn w A n xs := rowsOf h.len (fun _ _ => rfl) h.row h.fine
theorem stay (h : PRow base w A n c xs) : PKeep w (fun i => i < base) A n xs := fun _ ho => (h.step ho fun _ _ h => h).in_
theorem app (h : PRow base w A n c xs) {V : PairV} (hV : KeepP w V (fun i => i < base ∨ (Value.slice A n c).ownBlock = some i)) {A' : Option Addr} {c' : Nat}
  (q1 : w'.ownsRow base 59 3 (.slice A' (n + 1) c') (n + 1) (xs.flatMap PairV.cells ++ V.cells)) (q2 : n + 1 ≤ c')
  (q3 : ∀ g, (Value.slice A' (n + 1) c').ownBlock = some g → (Value.slice A n c).ownBlock = some g ∨ w.heap.size ≤ g) (q4 : Only (fun i => (Value.slice A n c).ownBlock = some i) w w') : PRow base w' A' (n + 1) c' (xs ++ [V]) := by
 have hk : ∀ x, KeepP w x (fun i => i < base ∨ (Value.slice A n c).ownBlock = some i) → KeepP w' x (fun i => i < base ∨ (Value.slice A' (n + 1) c').ownBlock = some i) := fun x hx =>
  hx.step (q4.mono fun _ _ h => .inr h) fun i hi hf => by
   rcases hf with hf | hf
   ·exact .inl hf
   ·rcases q3 i hf with h1 | h1
    ·exact .inr h1
    ·omega
 refine ⟨by rw [List.length_append, h.len]; rfl, q2, Nat.le_trans h.low q4.size, by rw [List.flatMap_append]; simpa using q1, fun x hx => ?_⟩
 rcases List.mem_append.1 hx with hx | hx
 ·exact hk x (h.keep x hx)
 ·rw [List.mem_singleton.1 hx]; exact hk V hV
theorem lt (h : PRow base w A n c xs) : ∀ g, (Value.slice A n c).ownBlock = some g → base ≤ g ∧ g < w.heap.size := h.row.lt
end PRow
theorem mkPr_key (w : World) (A : Option Addr) (n c : Nat) : (mkPr #[(0, .slice A n c)]).run Tryz.prog w = .ok (.agg #[.slice A n c, .slice none 0 0, .bool false]) w := by
 have hz := zeroPr_info
 cases hq : Tryz.prog.info? 59 with
 | none => rw [hq] at hz; cases hz
 | some i =>
  rw [hq] at hz
  have hz' : i.zero = some (.agg zeroPr.toArray) := by simpa using hz
  have hs : ∀ t, t = 23 ∨ t = 4 → (Tryz.prog.info? t).map (·.size) = some 1 := by
   rintro t (rfl | rfl) <;> kernel_rfl
  have h28 := fun w => run_size (P := Tryz.prog) (hs 23 (.inl rfl)) w
  have h4 := fun w => run_size (P := Tryz.prog) (hs 4 (.inr rfl)) w
  unfold mkPr Instr.build
  simp only [Sem.run_bind, run_zero hq hz', Result.andThen_ok, run_underlying Tryz.underlying59]
  simp [h28, h4, Instr.fill, Value.cells, zeroPr]
end
end Go.Proofs.YtjnpkcabkccaoaaGreat
namespace Go.Proofs.YtjnpkcabkccaoaaGreat

theorem chunks_one (b : List Int) (h0 : b ≠ []) (h : b.length ≤ 120) : chunks b = [b] := by
 rw [chunks_step b h0, List.take_of_length_le h, List.drop_of_length_le h, chunks_nil]
theorem Dev.Calm.sync_written {d : Dev} (h : d.Calm) : d.sync.1.written = [] := by
 obtain ⟨ha, hst⟩ := h.after
 unfold Dev.sync
 rw [hst, ha]; simp
theorem begin_stand {d : Dev} {l : LogD} {b : List Int} (hc : d.Calm) (hl : l.half ≤ 1) (hf : fitsB d b.length = true) (ht : topL d < mostGen) :
  ∃ d' l', beginL d l b = (d', l', 0) ∧ d' = (writeL (writeL d (1 - l.half) 0 (sealedB (topL d + 1)) (topL d + 1)).1 (1 - l.half) 1 (boundB 1 b (sealB (topL d + 1))) (topL d + 1)).1.sync.1 ∧ d'.written = [] ∧ Stand d' l' [b] ∧ d'.kept.length = d.kept.length ∧ l'.half = 1 - l.half ∧ l'.mark = topL d + 1 ∧ l'.at_ = 1 + (slabsN (b.length : Int) : Int) := by
 have hfit : b.length ≤ 100000 ∧ 1 + slabsN (b.length : Int) ≤ d.room := by
  rw [fitsB] at hf
  simp only [Bool.and_eq_true, decide_eq_true_eq] at hf
  omega
 obtain ⟨G, hG⟩ : ∃ G, G = topL d + 1 := ⟨_, rfl⟩
 rw [← hG]
 obtain ⟨h1, hh1⟩ : ∃ h1, h1 = 1 - l.half := ⟨_, rfl⟩
 have hO1 : 1 - h1 = l.half := by omega
 obtain ⟨H, hH⟩ : ∃ H, H = h1 * d.room := ⟨_, rfl⟩
 obtain ⟨O, hO⟩ : ∃ O, O = (1 - h1) * d.room := ⟨_, rfl⟩
 have hhv := halves h1 d.room (by omega)
 rw [← hH, ← hO] at hhv
 rw [← hh1]
 have hgm : 1 ≤ G ∧ G ≤ mostGen := by omega
 have hm : G < 18446744073709551616 := by have := hgm.2; unfold mostGen at this; omega
 have hroom : 2 * d.room ≤ d.kept.length := by unfold Dev.room; omega
 have hold : ∀ i, i < 2 * d.room → marked (d.slab i) < G := fun i hi => by have := topTo_ge d (2 * d.room) i hi; rw [hG, topL]; omega
 have hxl : (sealedB G).length = 48 := sealedB_len G
 have hx1 : chunks (sealedB G) = [sealedB G] := chunks_one _ (fun e => by rw [e] at hxl; simp at hxl) (by omega)
 obtain ⟨g0, g1, g2, g3, g4⟩ := Dev.Calm.writeC G [sealedB G] d H hc (fun c hc' => by rw [List.mem_singleton.1 hc']; omega) (by simp; omega)
 have hw1 : writeL d h1 0 (sealedB G) G = writeC d (H : Int) G [sealedB G] := by rw [writeL, hx1, hH]; push_cast; simp
 rw [hw1]
 obtain ⟨D1, hD1⟩ : ∃ D1, D1 = (writeC d (H : Int) G [sealedB G]).1 := ⟨_, rfl⟩
 rw [← hD1] at g1 g2 g3 g4 ⊢
 have k1 : D1.kept.length = d.kept.length := by rw [g2]
 have r1 := room_of k1
 obtain ⟨cs, hcs⟩ : ∃ cs, cs = chunks (boundB 1 b (sealB G)) := ⟨_, rfl⟩
 have hcl : cs.length = slabsN (b.length : Int) := by rw [hcs]; exact chunks_bound 1 b _ hfit.1
 obtain ⟨f0, f1, f2, f3, f4⟩ := Dev.Calm.writeC G cs D1 (H + 1) g1 (by rw [hcs]; exact chunks_len _) (by rw [k1]; omega)
 have hw2 : writeL D1 h1 1 (boundB 1 b (sealB G)) G = writeC D1 ((H + 1 : Nat) : Int) G cs := by rw [writeL, ← hcs, r1, hH]; push_cast; rfl
 rw [hw2]
 obtain ⟨D2, hD2⟩ : ∃ D2, D2 = (writeC D1 ((H + 1 : Nat) : Int) G cs).1 := ⟨_, rfl⟩
 rw [← hD2] at f1 f2 f3 f4 ⊢
 have k2 : D2.kept.length = d.kept.length := by rw [f2, k1]
 obtain ⟨s0, s1, s2, s3⟩ := f1.synced
 have sw := f1.sync_written
 obtain ⟨D3, hD3⟩ : ∃ D3, D3 = D2.sync.1 := ⟨_, rfl⟩
 rw [← hD3] at s1 s2 s3 sw ⊢
 have k3 : D3.kept.length = d.kept.length := by rw [s2, k2]
 have r3 := room_of k3
 have hfar : ∀ i, i < H ∨ H + 1 + cs.length ≤ i → D3.slab i = d.slab i := fun i hi => by
  rw [s3, f3 i (by omega), g3 i (by simp; omega)]
 have hhead : D3.slab H = slabOf (sealedB G) G := by
  rw [s3, f3 H (by omega)]
  have := g4 0 (sealedB G) rfl
  rwa [Nat.add_zero] at this
 have hrow : ∀ j c, cs[j]? = some c → D3.slab (H + 1 + j) = slabOf c G := fun j c hj => by rw [s3]; exact f4 j c hj
 have hch : chunksR [b] 1 (sealB G) = cs := by rw [chunksR, chunksR, List.append_nil, hcs]
 refine ⟨D3, ⟨h1, 1 + (slabsN (b.length : Int) : Int), G, sha (sealB G ++ recB 1 b), true⟩, ?_, rfl, sw, ⟨rfl, by show h1 ≤ 1; omega, s1, ⟨?_, ?_, ?_, ?_, ?_, hgm⟩, ?_, rfl, by simp, ?_, ?_⟩, k3, rfl, rfl, rfl⟩
 ·unfold beginL
  rw [if_neg (by rw [hf]; rintro (h | h); cases h; omega)]
  simp only [← hG, ← hh1, hw1, ← hD1]
  rw [if_neg (by rw [g0]; simp), hw2, if_neg (by rw [f0]; simp), ← hD2, if_neg (by rw [s0]; simp), hD3]
 ·show D3.slab (h1 * D3.room) = _
  rw [r3, ← hH]; exact hhead
 ·intro j c hj
  have hj' : (chunksR [b] 1 (sealB G))[j]? = some c := hj
  rw [hch] at hj'
  show D3.slab (h1 * D3.room + 1 + j) = _
  rw [r3, ← hH]
  exact hrow j c hj'
 ·intro j h9 h8
  have h9' : (chunksR [b] 1 (sealB G)).length ≤ j := h9
  rw [hch] at h9'
  show marked (D3.slab (h1 * D3.room + 1 + j)) ≠ G
  rw [r3] at h8 ⊢
  rw [← hH, hfar _ (by omega)]
  have := hold (H + 1 + j) (by omega)
  omega
 ·show 1 + (chunksR [b] 1 (sealB G)).length ≤ D3.room
  rw [hch, hcl, r3]
  omega
 ·intro x hx
  obtain rfl : x = b := by simpa using hx
  exact hfit.1
 ·show 1 + (slabsN (b.length : Int) : Int) = 1 + ((chunksR [b] 1 (sealB G)).length : Int)
  rw [hch, hcl]
 ·intro i hi
  show marked (D3.slab ((1 - h1) * D3.room + i)) < G
  rw [r3] at hi ⊢
  rw [← hO, hfar _ (by omega)]
  exact hold _ (by omega)
 ·intro i hi
  rw [r3] at hi
  show marked (D3.slab i) ≤ G
  by_cases h9 : i < H ∨ H + 1 + cs.length ≤ i
  ·rw [hfar i h9]
   have := hold i hi
   omega
  ·by_cases h8 : i = H
   ·rw [h8, hhead, slabOf_mark (by omega) _ hm]
    omega
   ·obtain ⟨c, hc'⟩ : ∃ c, cs[i - (H + 1)]? = some c := ⟨_, List.getElem?_eq_getElem (by omega)⟩
    have h7 := hrow _ c hc'
    rw [show H + 1 + (i - (H + 1)) = i by omega] at h7
    rw [h7, slabOf_mark (chunks_len (boundB 1 b (sealB G)) c (by rw [← hcs]; exact List.mem_of_getElem? hc')) _ hm]
    omega
end Go.Proofs.YtjnpkcabkccaoaaGreat
