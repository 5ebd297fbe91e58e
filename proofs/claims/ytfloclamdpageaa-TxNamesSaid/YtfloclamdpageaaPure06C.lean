/-
  Plain laws: what is written is read, as it was; cut off anywhere it is too short.
-/
import Derived.Test.YtfloclamdpageaaPure06B
namespace Go.Proofs.Ytfloclamdpageaa
open Go.RowKit

theorem take_pre {α : Type} (a b : List α) (k : Nat) (h : k = a.length) : (a ++ b).take k = a := by subst h; simp
theorem take_over {α : Type} (a b : List α) (m : Nat) : (a ++ b).take (a.length + m) = a ++ b.take m := by
  rw [List.take_append, List.take_of_length_le (by omega)]
  congr 2; omega
theorem peek_head (x : Int) (d rest : List Int) (n most : Nat) (hs : Rd.sizeOf x = d.length) (hd : 0 < d.length) (hn : num d = n) (hl : (cnt n).length = 1 + d.length) (hm : n ≤ most) : Rd.peek (x :: (d ++ rest)) most = (n, 1 + d.length, 0) := by
  have h1 : ¬ (d ++ rest).length < d.length := by simp
  have h2 : ¬ d.length = 0 := by omega
  have h3 : (d ++ rest).take d.length = d := take_pre _ _ _ rfl
  have h4 : ¬ ((cnt n).length ≠ 1 + d.length ∨ most < n) := by omega
  simp only [Rd.peek, hs, if_neg h1, if_neg h2, h3, hn, if_neg h4]
theorem peek_cnt (n most : Nat) (rest : List Int) (hn : n < 18446744073709551616) (hm : n ≤ most) : Rd.peek (cnt n ++ rest) most = (n, (cnt n).length, 0) := by
  have pw : ∀ k, k = 2 ∨ k = 4 ∨ k = 8 → n < 256 ^ k → num (dig n k) = n := fun k _ h => by rw [num_dig, Nat.mod_eq_of_lt h]
  have hd : ∀ k, (dig n k).length = k := dig_length n
  by_cases a : n < 253
  · have e : cnt n = [(n : Int)] := by simp [cnt, a]
    have hs : Rd.sizeOf (n : Int) = 0 := by
      have h1 : ¬ (n : Int) = 253 := by omega
      have h2 : ¬ (n : Int) = 254 := by omega
      have h3 : ¬ (n : Int) = 255 := by omega
      simp [Rd.sizeOf, h1, h2, h3]
    rw [e, List.cons_append, List.nil_append]
    simp only [Rd.peek, hs, Nat.not_lt_zero, if_false, if_true, Int.toNat_natCast, Nat.add_zero, e, List.length_singleton]
    rw [if_neg (by omega)]
  · by_cases b : n < 65536
    · have e : cnt n = 253 :: dig n 2 := by simp [cnt, a, b]
      rw [e, List.cons_append, peek_head 253 (dig n 2) rest n most (by rw [hd]; rfl) (by rw [hd]; decide) (pw 2 (by simp) b) (by rw [e]; simp; omega) hm]
      simp; omega
    · by_cases c : n < 4294967296
      · have e : cnt n = 254 :: dig n 4 := by simp [cnt, a, b, c]
        rw [e, List.cons_append, peek_head 254 (dig n 4) rest n most (by rw [hd]; rfl) (by rw [hd]; decide) (pw 4 (by simp) c) (by rw [e]; simp; omega) hm]
        simp; omega
      · have e : cnt n = 255 :: dig n 8 := by simp [cnt, a, b, c]
        rw [e, List.cons_append, peek_head 255 (dig n 8) rest n most (by rw [hd]; rfl) (by rw [hd]; decide) (pw 8 (by simp) hn) (by rw [e]; simp; omega) hm]
        simp; omega
theorem peek_cut (n most k : Nat) (rest : List Int) (hk : k < (cnt n).length) : Rd.peek ((cnt n ++ rest).take k) most = (0, 0, 61) := by
  cases k with
  | zero => simp [Rd.peek]
  | succ k =>
    have key : ∀ (x : Int) (d : List Int), cnt n = x :: d → Rd.sizeOf x = d.length → Rd.peek ((cnt n ++ rest).take (k + 1)) most = (0, 0, 61) := fun x d e hs => by
      rw [e] at hk ⊢
      simp only [List.length_cons] at hk
      rw [List.cons_append, List.take_succ_cons]
      have : ((d ++ rest).take k).length < d.length := by rw [List.length_take]; omega
      simp only [Rd.peek, hs, if_pos this]
    rcases cnt_cases n with ⟨_, e⟩ | ⟨_, _, e⟩ | ⟨_, _, e⟩ | ⟨_, e⟩
    · omega
    · exact key _ _ e (by rw [dig_length]; rfl)
    · exact key _ _ e (by rw [dig_length]; rfl)
    · exact key _ _ e (by rw [dig_length]; rfl)
theorem count_append (n most : Nat) (rest : List Int) (hn : n < 18446744073709551616) (hm : n ≤ most) : Rd.count ⟨cnt n ++ rest, 0⟩ most = (n, ⟨rest, 0⟩) := by
  simp [Rd.count, peek_cnt n most rest hn hm]
theorem text_append (x rest : List Int) (hx : x.length ≤ 300) : Rd.text ⟨txt x ++ rest, 0⟩ 300 = (x, ⟨rest, 0⟩) := by
  have hp := peek_cnt x.length 300 (x ++ rest) (by omega) hx
  rw [← List.append_assoc] at hp
  have e : (max (300 : Int) 0).toNat = 300 := by decide
  have h1 : ¬ (txt x ++ rest).length - (cnt x.length).length < x.length := by simp only [txt, List.length_append]; omega
  unfold Rd.text
  rw [show cnt x.length ++ x ++ rest = txt x ++ rest from rfl] at hp
  simp only [e, hp, ne_eq, not_true_eq_false, if_false, h1]
  simp [txt]
theorem raw_short (l : List Int) (k : Int) (h : (l.length : Int) < k) : Rd.raw ⟨l, 0⟩ k = ([], ⟨l, 61⟩) := by
  have h1 : ¬ (k < 1) := by omega
  simp [Rd.raw, h1, h]
theorem text_cut (x rest : List Int) (k : Nat) (hk : k < (txt x).length) (hx : x.length ≤ 300) : ((Rd.text ⟨(txt x ++ rest).take k, 0⟩ 300).2).err = 61 := by
  have e : (max (300 : Int) 0).toNat = 300 := by decide
  unfold Rd.text
  simp only [e, ne_eq, not_true_eq_false, if_false]
  by_cases h : k < (cnt x.length).length
  · have hp := peek_cut x.length 300 k (x ++ rest) h
    rw [← List.append_assoc, show cnt x.length ++ x ++ rest = txt x ++ rest from rfl] at hp
    simp [hp]
  · obtain ⟨m, rfl⟩ : ∃ m, k = (cnt x.length).length + m := ⟨k - (cnt x.length).length, by omega⟩
    have e2 : (txt x ++ rest).take ((cnt x.length).length + m) = cnt x.length ++ (x ++ rest).take m := by
      rw [txt, List.append_assoc, take_over]
    have hp := peek_cnt x.length 300 ((x ++ rest).take m) (by omega) hx
    have hm : m < x.length := by simp [txt] at hk; omega
    have h1 : (cnt x.length ++ (x ++ rest).take m).length - (cnt x.length).length < x.length := by simp; omega
    rw [e2]
    simp only [hp, not_true_eq_false, if_false, if_pos h1]
theorem sticky (r : Rd) (m : Int) (h : r.err ≠ 0) : (r.text m).2 = r := by simp [Rd.text, h]
theorem sticky_count (r : Rd) (m : Nat) (h : r.err ≠ 0) : (r.count m).2 = r := by simp [Rd.count, h]
/-- Texts are read, one behind the other. -/
def txtRun (r : Rd) (xss : List (List Int)) : Rd := xss.foldl (fun r _ => (r.text 300).2) r
theorem txtRun_sticky (r : Rd) (h : r.err = 61) : ∀ xss : List (List Int), txtRun r xss = r
  | [] => rfl
  | x :: xss => by
    show txtRun ((r.text 300).2) xss = r
    rw [sticky r 300 (by rw [h]; decide)]
    exact txtRun_sticky r h xss
theorem txtRun_snoc (r : Rd) (xss : List (List Int)) (x : List Int) : txtRun r (xss ++ [x]) = ((txtRun r xss).text 300).2 := by simp [txtRun]
theorem txtRun_cut : ∀ (xss : List (List Int)) (k : Nat), (∀ x ∈ xss, x.length ≤ 300) → k < (xss.flatMap txt).length → (txtRun ⟨(xss.flatMap txt).take k, 0⟩ xss).err = 61
  | [], k, _, hk => by simp at hk
  | x :: xss, k, h, hk => by
    rw [List.flatMap_cons] at hk ⊢
    show (txtRun ((Rd.text ⟨(txt x ++ xss.flatMap txt).take k, 0⟩ 300).2) xss).err = 61
    by_cases hkx : k < (txt x).length
    · have h1 := text_cut x (xss.flatMap txt) k hkx (h x (by simp))
      rw [txtRun_sticky _ h1]
      exact h1
    · obtain ⟨m, rfl⟩ : ∃ m, k = (txt x).length + m := ⟨k - (txt x).length, by omega⟩
      have e2 : (txt x ++ xss.flatMap txt).take ((txt x).length + m) = txt x ++ (xss.flatMap txt).take m := by
        rw [take_over]
      rw [e2, text_append x _ (h x (by simp))]
      exact txtRun_cut xss m (fun y hy => h y (by simp [hy])) (by rw [List.length_append] at hk; omega)
/-- Cut off anywhere it is too short. -/
theorem back_cut (n : Nat) (xss : List (List Int)) (k : Nat) (hn : n < 18446744073709551616) (h : ∀ x ∈ xss, x.length ≤ 300) (hk : k < (dig n 8 ++ cnt n ++ xss.flatMap txt).length) :
    (txtRun ((((Rd.fixed ⟨(dig n 8 ++ cnt n ++ xss.flatMap txt).take k, 0⟩ 8).2).count n).2) xss).err = 61 := by
  have hd : (dig n 8).length = 8 := dig_length n 8
  have hw : Rd.within 8 = 8 := by decide
  rw [List.append_assoc] at hk ⊢
  by_cases h8 : k < 8
  · have e : Rd.fixed ⟨(dig n 8 ++ (cnt n ++ xss.flatMap txt)).take k, 0⟩ 8 = (0, ⟨(dig n 8 ++ (cnt n ++ xss.flatMap txt)).take k, 61⟩) := by
      rw [Rd.fixed, hw, raw_short _ 8 (by simp; omega)]; rfl
    rw [e]
    have hs := sticky_count ⟨(dig n 8 ++ (cnt n ++ xss.flatMap txt)).take k, 61⟩ n (by show (61 : Int) ≠ 0; decide)
    simp only [hs]
    rw [txtRun_sticky _ rfl]
  · obtain ⟨m, rfl⟩ : ∃ m, k = 8 + m := ⟨k - 8, by omega⟩
    have e2 : (dig n 8 ++ (cnt n ++ xss.flatMap txt)).take (8 + m) = dig n 8 ++ (cnt n ++ xss.flatMap txt).take m := by
      rw [List.take_append, hd]
      congr 1
      · rw [List.take_of_length_le (by omega)]
      · congr 1; omega
    rw [e2, fixed_append (dig n 8) _ 8 (by rw [hd]; rfl) (by decide)]
    simp only
    by_cases hc : m < (cnt n).length
    · have e : Rd.count ⟨(cnt n ++ xss.flatMap txt).take m, 0⟩ n = (0, ⟨(cnt n ++ xss.flatMap txt).take m, 61⟩) := by
        simp [Rd.count, peek_cut n n m _ hc]
      rw [e, txtRun_sticky _ rfl]
    · obtain ⟨j, rfl⟩ : ∃ j, m = (cnt n).length + j := ⟨m - (cnt n).length, by omega⟩
      have e3 : (cnt n ++ xss.flatMap txt).take ((cnt n).length + j) = cnt n ++ (xss.flatMap txt).take j := by
        rw [take_over]
      rw [e3, count_append n n _ hn (Nat.le_refl _)]
      exact txtRun_cut xss j h (by simp only [List.length_append] at hk; omega)
end Go.Proofs.Ytfloclamdpageaa
