import Derived.Test.YtjnpkcabkccaoaaPk21
import Derived.Test.YtjnpkcabkccaoaaPk20
/-
  TableBytes: its walk.
-/
namespace Go.Proofs.Ytjnpkcabkccaoaa
open Go.RowKit

theorem PParsePost.read {w w' : World} {o : Option (List PairD)} {e : Ending} (h : PParsePost w o e w') :
    ∃ (A : Option Addr) (m c : Nat) (xs : List PairV), e = .returned (.tuple #[.slice A m c, .int .i64 (if o.isSome then 0 else 151)]) ∧ Below w.heap.size w w' ∧ PairsIn w' A m xs ∧ m ≤ c ∧ m ≤ 1048576 ∧ xs.map PairV.d = o.getD [] := by
  obtain ⟨hb, ⟨rfl, rfl⟩ | ⟨A, m, c, xs, rfl, rfl, hc, hk, hm⟩⟩ := h
  · exact ⟨none, 0, 0, [], rfl, hb, RowsIn.nil _ _ _ _ _, Nat.le_refl _, by omega, rfl⟩
  · exact ⟨A, m, c, xs, rfl, hb, hk.in_, hc, hm, rfl⟩
theorem same_self' (l : List PairD) : sameP l l = true := decide_eq_true rfl
attribute [local go_sem ↓] loadPr_fold
set_option maxHeartbeats 8000000 in
set_option maxRecDepth 100000 in
theorem tbytes_any (w : World) (A : Option Addr) (n c : Nat) (xs : List PairV) (hX : PairsIn w A n xs) (_ : n ≤ c) (B : Option Addr) (m d : Nat) (bs : List Int) (hB : Bys w B m bs) (hmd : m ≤ d) :
    Calls Try.prog 9 #[.slice A n c, .slice B m d] w fun e w' => e = .returned (.bool true) ∧ Below w.heap.size w w' := by
  have HX := hide hX
  have HY := hide hB
  have HYC := hide hmd
  obtain ⟨a, ha⟩ : ∃ a, a = xs.map PairV.d := ⟨_, rfl⟩
  have HA := hide ha
  have LA := hide (show a.length = n by rw [ha, List.length_map, hX.1])
  clear ha hX hB hmd
  go_enter Try.func9, Try.ntmps9
  go_wp2_with fail
  refine (talive_any w).mono ?_
  rintro e w1 ⟨rfl, b1⟩
  have B1 := hide b1
  have X1 := hide (HX.out.below' b1)
  have Y1 := hide (HY.out.below b1)
  clear b1
  go_wp2_with fail
  refine (great_any w1 A n c xs X1.out).mono ?_
  rintro e w2 ⟨rfl, b2⟩
  have B2 := hide (Below.then_ B1.out b2)
  have X2 := hide (X1.out.below' b2)
  have Y2 := hide (Y1.out.below b2)
  clear b2
  rw [← HA.out]
  by_cases hm : 2000 < m
  · have m9 : (2000 : Int) < (m : Int) := by omega
    clear hm
    cases greatP a <;>
    · go_wp2_with fail
      go_ret
      exact ⟨rfl, B2.out⟩
  have m9 : ¬ (2000 : Int) < (m : Int) := by omega
  have HM := hide (show m ≤ 2000 by omega)
  clear hm
  cases ga : greatP a with
  | true =>
    clear ga
    go_wp2_with fail
    go_ret
    exact ⟨rfl, B2.out⟩
  | false =>
    have GA := hide (great_small ga)
    clear ga
    have NA := hide (show n ≤ 40 by rw [← LA.out]; exact GA.out.1)
    have SA := hide (psize_small X2.out (by rw [← HA.out]; have := GA.out.2; omega))
    go_wp2_with fail
    clear m9
    refine (PBytes_any w2 A n c xs X2.out (by have := NA.out; omega) (by rw [← HA.out]; have := GA.out.2; omega)).mono ?_
    rintro e w3 ⟨A3, n3, c3, rfl, t3, _⟩
    rw [← HA.out] at t3 ⊢
    obtain ⟨tb, htb⟩ : ∃ z, z = tbytes a := ⟨_, rfl⟩
    have HTB := hide htb
    rw [← htb] at t3 ⊢
    obtain ⟨pb, er⟩ := tb
    simp only at t3 ⊢
    have B3 := hide (Below.then_ B2.out t3.below)
    have X3 := hide (X2.out.below' t3.below)
    have Y3 := hide (Y2.out.below t3.below)
    have P3 := hide t3.bys
    clear t3 htb
    go_wp2_with fail
    have hrb := refPBytes_any w3 A n c xs X3.out (by have := NA.out; omega) SA.out (by rw [← HA.out]; have := GA.out.2; omega)
    rw [← HA.out, ← HTB.out] at hrb
    refine hrb.mono ?_
    rintro e w4 ⟨A4, n4, c4, rfl, t4⟩
    simp only at t4 ⊢
    have B4 := hide (Below.then_ B3.out t4.below)
    have X4 := hide (X3.out.below' t4.below)
    have Y4 := hide (Y3.out.below t4.below)
    have P4 := hide (P3.out.below t4.below)
    have Q4 := hide t4.bys
    clear t4 hrb
    go_wp2_with fail
    refine (PParse_any w4 B m d bs Y4.out (by have := HM.out; omega)).mono ?_
    rintro e w5 hp
    obtain ⟨A5, n5, c5, us, rfl, b5, hu, _, h5m, hud⟩ := hp.read
    have U5 := hide hu
    have B5 := hide (Below.then_ B4.out b5)
    have X5 := hide (X4.out.below' b5)
    have Y5 := hide (Y4.out.below b5)
    have P5 := hide (P4.out.below b5)
    have Q5 := hide (Q4.out.below b5)
    have HUD := hide hud
    have H5 := hide h5m
    clear hp b5 hu h5m hud
    obtain ⟨ep, hep⟩ : ∃ z : Int, z = if (parseP bs).isSome = true then 0 else 151 := ⟨_, rfl⟩
    have HEP := hide hep
    rw [← hep]
    clear hep
    go_wp2_with fail
    refine (refPParse_any w5 B m d bs Y5.out HYC.out (by have := HM.out; omega)).mono ?_
    rintro e w6 hp
    obtain ⟨A6, n6, c6, vs, rfl, b6, hv, _, h6m, hvd⟩ := hp.read
    rw [← HEP.out]
    have V6 := hide hv
    have B6 := hide (Below.then_ B5.out b6)
    have X6 := hide (X5.out.below' b6)
    have U6 := hide (U5.out.below' b6)
    have P6 := hide (P5.out.below b6)
    have Q6 := hide (Q5.out.below b6)
    have HVD := hide hvd
    have H6 := hide h6m
    clear hp b6 hv h6m hvd
    obtain ⟨SV, hSV⟩ : ∃ S, S = ba pb := ⟨_, rfl⟩
    have z1 := run_str w6 A3 n3 c3 pb P6.out
    have z2 := run_str w6 A4 n4 c4 pb Q6.out
    rw [← hSV] at z1 z2
    clear hSV
    go_wp2_with fail
    clear z1 z2
    have hs := refSameP_any w6 A5 A6 n5 c5 n6 c6 us vs U6.out V6.out (by have := H5.out; omega) (by have := H6.out; omega)
    rw [HUD.out, HVD.out, same_self'] at hs
    refine hs.mono ?_
    rintro e w7 ⟨rfl, b7⟩
    have B7 := hide (Below.then_ B6.out b7)
    have X7 := hide (X6.out.below' b7)
    have P7 := hide (P6.out.below b7)
    clear b7 hs
    cases hr : rightB a with
    | false =>
      have he : er = 151 := by have h9 := HTB.out; rw [tbytes, hr] at h9; exact congrArg Prod.snd h9
      subst he
      clear hr
      go_wp2_with fail
      go_ret
      exact ⟨rfl, B7.out⟩
    | true =>
      have h9 : (pb, er) = (bytesP a, 0) := by have h9 := HTB.out; rw [tbytes, hr] at h9; exact h9
      have he : er = 0 := congrArg Prod.snd h9
      have hpb : pb = bytesP a := congrArg Prod.fst h9
      have HPB := hide (show parseP pb = some a by rw [hpb]; exact parse_back a hr (by rw [LA.out]; have := NA.out; omega))
      have N3 := hide (show n3 ≤ 1000000000 by
        have h1 := P7.out.1
        rw [hpb, bytesP] at h1
        have h2 := flat_len a
        have h3 := (cnt_length a.length).2
        have h4 := GA.out
        rw [List.length_append] at h1
        omega)
      subst he
      clear hr h9 hpb
      go_wp2_with fail
      refine (PParse_any w7 A3 n3 c3 pb P7.out N3.out).mono ?_
      rintro e w8 hp
      rw [HPB.out] at hp
      obtain ⟨A8, n8, c8, zs, rfl, b8, hz, _, h8m, hzd⟩ := hp.read
      have B8 := hide (Below.then_ B7.out b8)
      have X8 := hide (X7.out.below' b8)
      have Z8 := hide hz
      have HZD := hide (show zs.map PairV.d = a from hzd)
      have H8 := hide h8m
      clear hp b8 hz h8m hzd
      simp only [Option.isSome_some, if_true]
      go_wp2_with fail
      have hs := refSameP_any w8 A8 A n8 c8 n c zs xs Z8.out X8.out (by have := H8.out; omega) (by have := NA.out; omega)
      rw [HZD.out, ← HA.out, same_self'] at hs
      refine hs.mono ?_
      rintro e w9 ⟨rfl, b9⟩
      have B9 := hide (Below.then_ B8.out b9)
      clear b9 hs
      go_wp2_with fail
      go_ret
      exact ⟨rfl, B9.out⟩
end Go.Proofs.Ytjnpkcabkccaoaa
