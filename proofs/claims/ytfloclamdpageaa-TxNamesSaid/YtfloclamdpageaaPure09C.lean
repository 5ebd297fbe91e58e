/-
  What is read is what was written, and back; cut off it is too short: plain laws on texts, numbers, coins.
-/
import Derived.Test.YtfloclamdpageaaCoinD
import Derived.Test.YtfloclamdpageaaPure09B
namespace Go.Proofs.Ytfloclamdpageaa
open Go.RowKit

theorem text_app (x rest : List Int) (M : Int) (hx : (x.length : Int) ≤ M) (hM : M < 9223372036854775808) : Rd.text ⟨txt x ++ rest, 0⟩ M = (x, ⟨rest, 0⟩) := by
  obtain ⟨m, e⟩ : ∃ m, (max M 0).toNat = m := ⟨_, rfl⟩
  have hxm : x.length ≤ m := by omega
  have hp := peek_cnt x.length m (x ++ rest) (by omega) hxm
  rw [← List.append_assoc, show cnt x.length ++ x ++ rest = txt x ++ rest from rfl] at hp
  have h1 : ¬ (txt x ++ rest).length - (cnt x.length).length < x.length := by simp only [txt, List.length_append]; omega
  unfold Rd.text
  simp only [e, hp, ne_eq, not_true_eq_false, if_false, h1]
  simp [txt]
theorem text_cut2 (x rest : List Int) (k : Nat) (M : Int) (hk : k < (txt x).length) (hx : (x.length : Int) ≤ M) (hM : M < 9223372036854775808) : ((Rd.text ⟨(txt x ++ rest).take k, 0⟩ M).2).err = 61 := by
  obtain ⟨m, e⟩ : ∃ m, (max M 0).toNat = m := ⟨_, rfl⟩
  have hxm : x.length ≤ m := by omega
  unfold Rd.text
  simp only [e, ne_eq, not_true_eq_false, if_false]
  by_cases h : k < (cnt x.length).length
  · have hp := peek_cut x.length m k (x ++ rest) h
    rw [← List.append_assoc, show cnt x.length ++ x ++ rest = txt x ++ rest from rfl] at hp
    simp [hp]
  · obtain ⟨i, rfl⟩ : ∃ i, k = (cnt x.length).length + i := ⟨k - (cnt x.length).length, by omega⟩
    have e2 : (txt x ++ rest).take ((cnt x.length).length + i) = cnt x.length ++ (x ++ rest).take i := by
      rw [txt, List.append_assoc, take_over]
    have hp := peek_cnt x.length m ((x ++ rest).take i) (by omega) hxm
    have hm : i < x.length := by simp [txt] at hk; omega
    have h1 : (cnt x.length ++ (x ++ rest).take i).length - (cnt x.length).length < x.length := by simp; omega
    rw [e2]
    simp only [hp, not_true_eq_false, if_false, if_pos h1]
theorem sticky_fixed (r : Rd) (m : Int) (h : r.err ≠ 0) : r.fixed m = (0, r) := by simp [Rd.fixed, Rd.raw, h, num]
theorem ite_err {p : Prop} [Decidable p] (N U : Nat) : (if p then ((0 : Nat), (0 : Nat), (62 : Int)) else (N, U, 0)).2.2 = 0 ∨ (if p then ((0 : Nat), (0 : Nat), (62 : Int)) else (N, U, 0)).2.2 = 61 ∨ (if p then ((0 : Nat), (0 : Nat), (62 : Int)) else (N, U, 0)).2.2 = 62 := by
  split <;> simp
theorem peek_err (b : List Int) (m : Nat) : (Rd.peek b m).2.2 = 0 ∨ (Rd.peek b m).2.2 = 61 ∨ (Rd.peek b m).2.2 = 62 := by
  cases b with
  | nil => simp [Rd.peek]
  | cons x l =>
    by_cases h1 : l.length < Rd.sizeOf x
    · simp only [Rd.peek, if_pos h1]; decide
    · simp only [Rd.peek, if_neg h1]
      exact ite_err _ _
/-- An error that there can be. -/
def Bad (e : Int) : Prop := e = 0 ∨ e = 61 ∨ e = 62
theorem count_bad (r : Rd) (m : Nat) (h : Bad r.err) : Bad (r.count m).2.err := by
  unfold Rd.count
  split
  · exact h
  · exact peek_err _ _
theorem raw_bad (r : Rd) (k : Int) (h : Bad r.err) : Bad (r.raw k).2.err := by
  unfold Rd.raw
  split
  · exact h
  · split
    · exact .inr (.inl rfl)
    · exact h
theorem fixed_bad (r : Rd) (k : Int) (h : Bad r.err) : Bad (r.fixed k).2.err := raw_bad _ _ h
theorem text_bad (r : Rd) (k : Int) (h : Bad r.err) : Bad (r.text k).2.err := by
  unfold Rd.text
  split
  · exact h
  · split
    · exact peek_err _ _
    · split
      · exact .inr (.inl rfl)
      · exact h
theorem fixed_ok (r : Rd) (k : Int) (h : (r.fixed k).2.err = 0) : r.err = 0 := by
  apply Classical.byContradiction
  intro he
  rw [sticky_fixed r k he] at h
  exact he h
theorem text_ok (r : Rd) (k : Int) (h : (r.text k).2.err = 0) : r.err = 0 := by
  apply Classical.byContradiction
  intro he
  rw [sticky r k he] at h
  exact he h
theorem count_ok (r : Rd) (k : Nat) (h : (r.count k).2.err = 0) : r.err = 0 := by
  apply Classical.byContradiction
  intro he
  rw [sticky_count r k he] at h
  exact he h
theorem count_back (r : Rd) (m : Nat) (hB : Byt r.rest) (h : (r.count m).2.err = 0) : r.rest = cnt (r.count m).1 ++ (r.count m).2.rest ∧ (r.count m).1 ≤ m ∧ Byt (r.count m).2.rest := by
  have h0 := count_ok r m h
  unfold Rd.count at h ⊢
  simp only [h0, ne_eq, not_true_eq_false, if_false] at h ⊢
  obtain ⟨N, U, X, hp⟩ : ∃ N U X, Rd.peek r.rest m = (N, U, X) := ⟨_, _, _, rfl⟩
  rw [hp] at h ⊢
  simp only at h ⊢
  subst h
  obtain ⟨h1, h2, h3⟩ := peek_back _ _ hB _ _ hp
  exact ⟨by rw [h1, List.take_append_drop], h3, fun x hx => hB x (List.mem_of_mem_drop hx)⟩
theorem fixed_back (r : Rd) (k : Int) (hk : 1 ≤ k) (h8 : k ≤ 8) (hB : Byt r.rest) (h : (r.fixed k).2.err = 0) : r.rest = dig (r.fixed k).1 k.toNat ++ (r.fixed k).2.rest ∧ (r.fixed k).1 < 256 ^ k.toNat ∧ Byt (r.fixed k).2.rest := by
  have h0 := fixed_ok r k h
  have hw : Rd.within k = k := by unfold Rd.within; omega
  unfold Rd.fixed Rd.raw at h ⊢
  have hk1 : ¬ k < 1 := by omega
  simp only [hw, h0, ne_eq, not_true_eq_false, false_or, hk1, if_false] at h ⊢
  by_cases hl : (r.rest.length : Int) < k
  · simp [hl] at h
  · simp only [if_neg hl] at h ⊢
    have hlen : (r.rest.take k.toNat).length = k.toNat := by rw [List.length_take]; omega
    have hb : Byt (r.rest.take k.toNat) := fun x hx => hB x (List.mem_of_mem_take hx)
    have hd := dig_num _ hb
    have hn := num_lt _ hb
    rw [hlen] at hd hn
    exact ⟨by rw [hd, List.take_append_drop], hn, fun x hx => hB x (List.mem_of_mem_drop hx)⟩
theorem text_back (r : Rd) (M : Int) (hM0 : 0 ≤ M) (hB : Byt r.rest) (h : (r.text M).2.err = 0) : r.rest = txt (r.text M).1 ++ (r.text M).2.rest ∧ ((r.text M).1.length : Int) ≤ M ∧ Byt (r.text M).2.rest ∧ Byt (r.text M).1 := by
  have h0 := text_ok r M h
  unfold Rd.text at h ⊢
  obtain ⟨m, e⟩ : ∃ m, (max M 0).toNat = m := ⟨_, rfl⟩
  obtain ⟨N, U, X, hp⟩ : ∃ N U X, Rd.peek r.rest m = (N, U, X) := ⟨_, _, _, rfl⟩
  simp only [h0, e, hp, ne_eq, not_true_eq_false, if_false] at h ⊢
  by_cases hX : X = 0
  · subst hX
    simp only [not_true_eq_false, if_false] at h ⊢
    obtain ⟨h1, h2, h3⟩ := peek_back _ _ hB _ _ hp
    by_cases hs : r.rest.length - U < N
    · simp [hs] at h
    · simp only [if_neg hs] at h ⊢
      have hl : ((r.rest.drop U).take N).length = N := by rw [List.length_take, List.length_drop]; omega
      refine ⟨?_, by rw [hl]; omega, fun x hx => hB x (List.mem_of_mem_drop (List.mem_of_mem_drop hx)), fun x hx => hB x (List.mem_of_mem_drop (List.mem_of_mem_take hx))⟩
      rw [txt, hl, h1, List.append_assoc, List.take_append_drop, List.take_append_drop]
  · simp [hX] at h
theorem i64_back (F : Nat) (h : F < 18446744073709551616) : u64 (i64 F) = F := by
  unfold u64 i64
  split <;> omega
/-! ### Coins -/
theorem parse_eq (b : List Int) (N F : Nat) (T : List Int) (r1 r2 r3 : Rd) (h1 : Rd.count ⟨b, 0⟩ 2000000001 = (N, r1)) (h2 : r1.fixed 8 = (F, r2)) (h3 : r2.text 2000 = (T, r3)) :
    parse b = if r2.err = 0 ∧ ¬ money (i64 F) then (zeroC, 62) else if r3.err ≠ 0 then (zeroC, r3.err) else if 0 < r3.rest.length then (zeroC, 62) else (⟨⟨i64 F, T⟩, (N : Int) / 2, decide ((N : Int) % 2 = 1)⟩, 0) := by
  simp only [parse, h1, h2, h3]
theorem parse_bad (b : List Int) (h : (parse b).2 ≠ 0) : (parse b).1 = zeroC ∧ ((parse b).2 = 61 ∨ (parse b).2 = 62) := by
  obtain ⟨N, r1, h1⟩ : ∃ N r1, Rd.count ⟨b, 0⟩ 2000000001 = (N, r1) := ⟨_, _, rfl⟩
  obtain ⟨F, r2, h2⟩ : ∃ F r2, r1.fixed 8 = (F, r2) := ⟨_, _, rfl⟩
  obtain ⟨T, r3, h3⟩ : ∃ T r3, r2.text 2000 = (T, r3) := ⟨_, _, rfl⟩
  have b1 := count_bad ⟨b, 0⟩ 2000000001 (.inl rfl)
  rw [h1] at b1
  have b2 := fixed_bad r1 8 b1
  rw [h2] at b2
  have b3 := text_bad r2 2000 b2
  rw [h3] at b3
  rw [parse_eq b N F T r1 r2 r3 h1 h2 h3] at h ⊢
  by_cases c1 : r2.err = 0 ∧ ¬ money (i64 F)
  · rw [if_pos c1]; exact ⟨rfl, .inr rfl⟩
  · rw [if_neg c1] at h ⊢
    by_cases c2 : r3.err ≠ 0
    · rw [if_pos c2]; exact ⟨rfl, by rcases b3 with h | h | h; exact absurd h c2; exact .inl h; exact .inr h⟩
    · rw [if_neg c2] at h ⊢
      by_cases c3 : 0 < r3.rest.length
      · rw [if_pos c3]; exact ⟨rfl, .inr rfl⟩
      · rw [if_neg c3] at h; exact absurd rfl h
theorem n64_right (c : CoinD) (h : c.right) : c.n64.toNat = c.num ∧ c.num ≤ 2000000001 := by
  obtain ⟨_, _, h0, h1⟩ := h
  unfold CoinD.n64 CoinD.num
  cases c.base <;> simp <;> omega
theorem parse_good (b : List Int) (hB : Byt b) (h : (parse b).2 = 0) : (parse b).1.right ∧ (parse b).1.bytes64 = b ∧ Byt (parse b).1.out.lock := by
  obtain ⟨N, r1, h1⟩ : ∃ N r1, Rd.count ⟨b, 0⟩ 2000000001 = (N, r1) := ⟨_, _, rfl⟩
  obtain ⟨F, r2, h2⟩ : ∃ F r2, r1.fixed 8 = (F, r2) := ⟨_, _, rfl⟩
  obtain ⟨T, r3, h3⟩ : ∃ T r3, r2.text 2000 = (T, r3) := ⟨_, _, rfl⟩
  rw [parse_eq b N F T r1 r2 r3 h1 h2 h3] at h ⊢
  by_cases c1 : r2.err = 0 ∧ ¬ money (i64 F)
  · rw [if_pos c1] at h; exact absurd h (by decide)
  · rw [if_neg c1] at h ⊢
    by_cases c2 : r3.err ≠ 0
    · rw [if_pos c2] at h; exact absurd h c2
    · rw [if_neg c2] at h ⊢
      by_cases c3 : 0 < r3.rest.length
      · rw [if_pos c3] at h; exact absurd h (by decide)
      · rw [if_neg c3]
        have e3 : r3.err = 0 := by simpa using c2
        have e3' : (r2.text 2000).2.err = 0 := by rw [h3]; exact e3
        have e2 := text_ok _ _ e3'
        have e2' : (r1.fixed 8).2.err = 0 := by rw [h2]; exact e2
        have e1 := fixed_ok _ _ e2'
        have e1' : (Rd.count ⟨b, 0⟩ 2000000001).2.err = 0 := by rw [h1]; exact e1
        have k1 := count_back _ _ hB e1'
        rw [h1] at k1
        obtain ⟨k1, n1, B1⟩ := k1
        simp only at k1 n1 B1
        have k2 := fixed_back _ 8 (by decide) (by decide) B1 e2'
        rw [h2] at k2
        obtain ⟨k2, n2, B2⟩ := k2
        simp only at k2 n2 B2
        have k3 := text_back _ 2000 (by decide) B2 e3'
        rw [h3] at k3
        obtain ⟨k3, n3, B3, B4⟩ := k3
        simp only at k3 n3 B3 B4
        have hz : r3.rest = [] := List.eq_nil_of_length_eq_zero (by omega)
        have hm : money (i64 F) := by
          apply Classical.byContradiction
          intro hm
          exact c1 ⟨e2, hm⟩
        have n2' : F < 18446744073709551616 := n2
        have hU := i64_back F n2'
        clear c1 h e1 e1' e2 e2' e3 e3' h1 h2 h3 n2 n2'
        generalize i64 F = v at hm hU ⊢
        have hq0 : (0 : Int) ≤ (N : Int) / 2 := by omega
        have hq1 : (N : Int) / 2 ≤ 1000000000 := by omega
        have hn3 : T.length ≤ 2000 := by omega
        refine ⟨⟨hm, hn3, hq0, hq1⟩, ?_, B4⟩
        have hn : CoinD.n64 (⟨⟨v, T⟩, (N : Int) / 2, decide ((N : Int) % 2 = 1)⟩ : CoinD) = N := by
          unfold CoinD.n64
          by_cases hp : (N : Int) % 2 = 1
          · simp only [hp, decide_true, if_true]; omega
          · simp only [hp, decide_false]; simp; omega
        show cnt (CoinD.n64 (⟨⟨v, T⟩, (N : Int) / 2, decide ((N : Int) % 2 = 1)⟩ : CoinD)).toNat ++ (dig (u64 v).toNat 8 ++ txt T) = b
        rw [hn, hU, Int.toNat_natCast, Int.toNat_natCast, k1, k2, k3, hz, List.append_nil]
        rfl
theorem dig8 (n : Nat) : (dig n 8).length = 8 := dig_length n 8
theorem u64_nat (v : Int) : (u64 v).toNat < 18446744073709551616 := by unfold u64; omega
theorem num_dig8 (v : Int) : num (dig (u64 v).toNat 8) = (u64 v).toNat := by
  have := u64_nat v
  rw [num_dig, Nat.mod_eq_of_lt (by exact this)]
theorem i64_money (v : Int) (h : money v) : i64 ((u64 v).toNat : Int) = v := by
  have h1 := h.1
  have h2 := h.2
  have : ((u64 v).toNat : Int) = u64 v := by unfold u64; omega
  rw [this, i64_u64 v (by omega) (by omega)]
/-- What is written of a coin, with something behind it. -/
theorem parse_append (c : CoinD) (h : c.right) (rest : List Int) : parse (c.bytes64 ++ rest) = if 0 < rest.length then (zeroC, 62) else (c, 0) := by
  obtain ⟨hn, hn2⟩ := n64_right c h
  have e : c.bytes64 ++ rest = cnt c.num ++ (dig (u64 c.out.value).toNat 8 ++ (txt c.out.lock ++ rest)) := by
    unfold CoinD.bytes64 OutD.bytes
    rw [hn]
    simp only [List.append_assoc]
  have h1 : Rd.count ⟨c.bytes64 ++ rest, 0⟩ 2000000001 = (c.num, ⟨dig (u64 c.out.value).toNat 8 ++ (txt c.out.lock ++ rest), 0⟩) := by
    rw [e]; exact count_append _ _ _ (by omega) hn2
  have h2 : Rd.fixed ⟨dig (u64 c.out.value).toNat 8 ++ (txt c.out.lock ++ rest), 0⟩ 8 = ((u64 c.out.value).toNat, ⟨txt c.out.lock ++ rest, 0⟩) := by
    rw [fixed_append _ _ 8 (by rw [dig8]; rfl) (by decide), num_dig8]
  have h3 : Rd.text ⟨txt c.out.lock ++ rest, 0⟩ 2000 = (c.out.lock, ⟨rest, 0⟩) := text_app _ _ _ (by have := h.2.1; omega) (by decide)
  rw [parse_eq _ _ _ _ _ _ _ h1 h2 h3]
  rw [if_neg (fun hh => hh.2 (by rw [i64_money _ h.1]; exact h.1)), if_neg (by simp)]
  by_cases hr : 0 < rest.length
  · simp only [if_pos hr]
  · simp only [if_neg hr]
    rw [i64_money _ h.1]
    have h4 := h.2.2.1
    obtain ⟨⟨v, l⟩, H, B⟩ := c
    simp only at h4 ⊢
    unfold CoinD.num
    cases B
    · simp; omega
    · simp; omega
theorem parse_cut (c : CoinD) (h : c.right) (k : Nat) (hk : k < c.bytes64.length) : (parse (c.bytes64.take k)).2 = 61 := by
  obtain ⟨hn, hn2⟩ := n64_right c h
  have e : c.bytes64 = cnt c.num ++ (dig (u64 c.out.value).toNat 8 ++ txt c.out.lock) := by
    unfold CoinD.bytes64 OutD.bytes
    rw [hn]
  rw [e] at hk ⊢
  obtain ⟨b, hb⟩ : ∃ b, b = (cnt c.num ++ (dig (u64 c.out.value).toNat 8 ++ txt c.out.lock)).take k := ⟨_, rfl⟩
  rw [← hb]
  obtain ⟨N, r1, h1⟩ : ∃ N r1, Rd.count ⟨b, 0⟩ 2000000001 = (N, r1) := ⟨_, _, rfl⟩
  obtain ⟨F, r2, h2⟩ : ∃ F r2, r1.fixed 8 = (F, r2) := ⟨_, _, rfl⟩
  obtain ⟨T, r3, h3⟩ : ∃ T r3, r2.text 2000 = (T, r3) := ⟨_, _, rfl⟩
  rw [parse_eq b N F T r1 r2 r3 h1 h2 h3]
  have fin : (r2.err = 61 ∨ r2.err = 0 ∧ money (i64 F)) → r3.err = 61 → (if r2.err = 0 ∧ ¬ money (i64 F) then (zeroC, (62 : Int)) else if r3.err ≠ 0 then (zeroC, r3.err) else if 0 < r3.rest.length then (zeroC, 62) else (⟨⟨i64 F, T⟩, (N : Int) / 2, decide ((N : Int) % 2 = 1)⟩, 0)).2 = 61 := fun ha hb => by
    rw [if_neg (fun hc => by rcases ha with h | h; rw [h] at hc; exact absurd hc.1 (by decide); exact hc.2 h.2), if_pos (by rw [hb]; decide)]
    exact hb
  by_cases hc : k < (cnt c.num).length
  · have hp := peek_cut c.num 2000000001 k (dig (u64 c.out.value).toNat 8 ++ txt c.out.lock) hc
    rw [← hb] at hp
    have : r1.err = 61 := by
      have h1' := congrArg (fun x => x.2.err) h1
      simp only at h1'
      rw [← h1']
      simp [Rd.count, hp]
    have e2 : r2 = r1 := by
      have := sticky_fixed r1 8 (by rw [this]; decide)
      rw [h2] at this
      exact congrArg Prod.snd this
    have e3 : r3 = r2 := by
      have := sticky r2 2000 (by rw [e2, this]; decide)
      rw [h3] at this
      exact this
    exact fin (.inl (by rw [e2]; exact this)) (by rw [e3, e2]; exact this)
  · obtain ⟨j, rfl⟩ : ∃ j, k = (cnt c.num).length + j := ⟨k - (cnt c.num).length, by omega⟩
    rw [take_over] at hb
    rw [hb, count_append _ _ _ (by omega) hn2] at h1
    injection h1 with _ h1
    subst h1
    by_cases h8 : j < 8
    · have e : Rd.fixed ⟨(dig (u64 c.out.value).toNat 8 ++ txt c.out.lock).take j, 0⟩ 8 = (0, ⟨(dig (u64 c.out.value).toNat 8 ++ txt c.out.lock).take j, 61⟩) := by
        rw [Rd.fixed, show Rd.within 8 = 8 from by decide, raw_short _ 8 (by simp; omega)]; rfl
      rw [e] at h2
      injection h2 with _ h2
      have e2 : r2.err = 61 := by rw [← h2]
      have e3 : r3 = r2 := by
        have := sticky r2 2000 (by rw [e2]; decide)
        rw [h3] at this
        exact this
      exact fin (.inl e2) (by rw [e3]; exact e2)
    · obtain ⟨i, rfl⟩ : ∃ i, j = 8 + i := ⟨j - 8, by omega⟩
      have e2 : (dig (u64 c.out.value).toNat 8 ++ txt c.out.lock).take (8 + i) = dig (u64 c.out.value).toNat 8 ++ (txt c.out.lock).take i := by
        have := take_over (dig (u64 c.out.value).toNat 8) (txt c.out.lock) i
        rwa [dig8] at this
      rw [e2, fixed_append _ _ 8 (by rw [dig8]; rfl) (by decide), num_dig8] at h2
      injection h2 with hF h2
      subst hF
      subst h2
      refine fin (.inr ⟨rfl, by rw [i64_money _ h.1]; exact h.1⟩) ?_
      have := text_cut2 c.out.lock [] i 2000 (by simp only [List.length_append, dig8] at hk; omega) (by have := h.2.1; omega) (by decide)
      rw [List.append_nil, h3] at this
      exact this
end Go.Proofs.Ytfloclamdpageaa
