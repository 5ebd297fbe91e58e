import Derived.Test.YtjnpkcabkccaoaaPk3
import Derived.Test.YtjnpkcabkccaoaaPk1
import Derived.Deep.RegionHeldLaw
/-
  Amounts, coins and outputs as bytes: plain functions, no program in sight.
-/
namespace Go.Proofs.Ytjnpkcabkccaoaa
open Go.RowKit

def money (n : Int) : Prop := 0 ≤ n ∧ n ≤ 2000000000000
instance (n : Int) : Decidable (money n) := by unfold money; infer_instance
/-- All together, and the error's number; s: what has been summed. -/
def sumFrom : List Int → Int → Int × Int
  | [], s => (s, 0)
  | v :: l, s => if money v ∧ money (s + v) then sumFrom l (s + v) else (0, 91)
/-- How much is made at a height. -/
def subsidy (h : Int) : Int := if h < 0 then 0 else 5000000000 / 2 ^ (h / 150).toNat
theorem subsidy_late (h : Int) (hh : 33 * 150 ≤ h) : subsidy h = 0 := by
  have h0 : ¬ h < 0 := by omega
  rw [subsidy, if_neg h0]
  obtain ⟨k, hk⟩ : ∃ k, (h / 150).toNat = 33 + k := ⟨(h / 150).toNat - 33, by omega⟩
  rw [hk]
  have h1 : (0 : Int) < 2 ^ k := Int.pow_pos (by decide)
  have : (5000000000 : Int) < 2 ^ (33 + k) := by
    rw [Int.pow_add]
    have : (2 : Int) ^ 33 = 8589934592 := by decide
    rw [this]
    omega
  exact Int.ediv_eq_zero_of_lt (by decide) this
def u64 (v : Int) : Int := v % 18446744073709551616
theorem u64_U64 (v : Int) : U64 (u64 v) := ⟨by unfold u64; omega, by unfold u64; omega⟩
/-- A number of 64 bits, read as one with a sign. -/
def i64 (n : Int) : Int := if n < 9223372036854775808 then n else n - 18446744073709551616
theorem i64_u64 (v : Int) (h0 : -9223372036854775808 ≤ v) (h1 : v ≤ 9223372036854775807) : i64 (u64 v) = v := by
  unfold i64 u64
  split <;> omega
structure OutD where
  value : Int
  lock : List Int
def OutD.bytes (o : OutD) : List Int := dig (u64 o.value).toNat 8 ++ txt o.lock
structure CoinD where
  out : OutD
  height : Int
  base : Bool
def CoinD.right (c : CoinD) : Prop := money c.out.value ∧ c.out.lock.length ≤ 2000 ∧ 0 ≤ c.height ∧ c.height ≤ 1000000000
def CoinD.num (c : CoinD) : Nat := 2 * c.height.toNat + (if c.base then 1 else 0)
def CoinD.bytes (c : CoinD) : List Int := cnt c.num ++ c.out.bytes
def refBytes (id : List Int) (at_ : Int) : List Int := id ++ dig at_.toNat 4
end Go.Proofs.Ytjnpkcabkccaoaa
/-
  coin: Money, Sum, Subsidy; the document's.
-/
namespace Go.Proofs.Ytjnpkcabkccaoaa
open Go.RowKit

def moneyB (n : Int) : Bool := decide (money n)
theorem money_iff (n : Int) : moneyB n = true ↔ money n := by unfold moneyB; simp
set_option maxHeartbeats 400000 in
theorem Money_any (w : World) (n : Int) : Calls Try.prog 134 #[.int .i64 n] w fun e w' => e = .returned (.bool (moneyB n)) ∧ w = w' := by
  have h : (n < 0 ∧ moneyB n = false) ∨ (0 ≤ n ∧ n ≤ 2000000000000 ∧ moneyB n = true) ∨ (0 ≤ n ∧ 2000000000000 < n ∧ moneyB n = false) := by
    unfold moneyB money
    by_cases h1 : 0 ≤ n <;> by_cases h2 : n ≤ 2000000000000 <;> simp [h1, h2] <;> omega
  rcases h with ⟨h1, e⟩ | ⟨h1, h2, e⟩ | ⟨h1, h2, e⟩
  all_goals
    have E := hide e
    clear e
    go_enter Try.func134, Try.ntmps134
    go_wp2
    go_ret
    exact ⟨by rw [E.out]; first | rfl | (show Ending.returned (.bool (decide _)) = _; congr 2; simp; omega), rfl⟩
set_option maxHeartbeats 400000 in
theorem refmoney_any (w : World) (n : Int) : Calls Try.prog 135 #[.int .i64 n] w fun e w' => e = .returned (.bool (moneyB n)) ∧ w = w' := by
  have h : (n < 0 ∧ moneyB n = false) ∨ (0 ≤ n ∧ n ≤ 2000000000000 ∧ moneyB n = true) ∨ (0 ≤ n ∧ 2000000000000 < n ∧ moneyB n = false) := by
    unfold moneyB money
    by_cases h1 : 0 ≤ n <;> by_cases h2 : n ≤ 2000000000000 <;> simp [h1, h2] <;> omega
  rcases h with ⟨h1, e⟩ | ⟨h1, h2, e⟩ | ⟨h1, h2, e⟩
  all_goals
    have E := hide e
    clear e
    go_enter Try.func135, Try.ntmps135
    go_wp2
    go_ret
    exact ⟨by rw [E.out]; first | rfl | (show Ending.returned (.bool (decide _)) = _; congr 2; simp; omega), rfl⟩
/-- An output in memory. -/
structure OutV where
  v : Int
  A : Option Addr
  n : Nat
  c : Nat
  bs : List Int
def OutV.cells (a : OutV) : List Value := [.int .i64 a.v, .slice a.A a.n a.c]
def OutV.d (a : OutV) : OutD := ⟨a.v, a.bs⟩
structure OutV.Fine (w : World) (a : OutV) : Prop where
  v : -9223372036854775808 ≤ a.v ∧ a.v ≤ 9223372036854775807
  bys : Bys w a.A a.n a.bs
  cap : a.n ≤ a.c
abbrev OutsIn (w : World) (A : Option Addr) (n : Nat) (xs : List OutV) : Prop := RowsIn OutV.cells 2 OutV.Fine w A n xs
theorem OutV.Fine.below {w w' : World} {a : OutV} (h : a.Fine w) (hb : Below w.heap.size w w') : a.Fine w' := ⟨h.v, h.bys.below hb, h.cap⟩
theorem OutsIn.below' {w w' : World} {A : Option Addr} {n : Nat} {xs : List OutV} (h : OutsIn w A n xs) (hb : Below w.heap.size w w') : OutsIn w' A n xs := h.below hb fun _ h => h.below hb
theorem rangeAt_c0 {w : World} {b o : Nat} {x : Value} {l : List Value} (h : w.rangeAt b o (x :: l)) : w.cell? ⟨b, o, none⟩ = some x := by have := h 0 x rfl; simpa using this
theorem rangeAt_c1 {w : World} {b o : Nat} {x y : Value} {l : List Value} (h : w.rangeAt b o (x :: y :: l)) : w.cell? ⟨b, o + 1, none⟩ = some y := h 1 y rfl
theorem sumFrom_step (v : Int) (l : List Int) (s : Int) : sumFrom (v :: l) s = if money v ∧ money (s + v) then sumFrom l (s + v) else (0, 91) := rfl
set_option maxHeartbeats 2000000 in
set_option maxRecDepth 100000 in
theorem Sum_any (w : World) (A : Option Addr) (n c : Nat) (xs : List OutV) (hX : OutsIn w A n xs) (hn : (n : Int) ≤ 1000000) :
    Calls Try.prog 104 #[.slice A n c] w fun e w' => e = .returned (.tuple #[.int .i64 (sumFrom (xs.map (·.v)) 0).1, .int .i64 (sumFrom (xs.map (·.v)) 0).2]) ∧ Below w.heap.size w w' := by
  have HX := hide hX
  clear hX
  go_enter Try.func104, Try.ntmps104
  go_wp2
  go_loopw [4, 6, 9] (fun s _ i wr => ∃ (j : Nat) (t : Int), j ≤ n ∧ i = .int .i64 j ∧ s = .int .i64 t ∧ 0 ≤ t ∧ t ≤ 2000000000000 ∧ sumFrom (xs.map (·.v)) 0 = sumFrom ((xs.drop j).map (·.v)) t ∧ Below w.heap.size w wr) (fun _ _ i _ => n - (intOf i).toNat)
  case atStart => exact ⟨0, 0, by omega, rfl, rfl, by omega, by omega, by simp, Below.refl _ _⟩
  case round =>
    obtain ⟨j, t, hj, rfl, rfl, t0, t1, hs, hb⟩ := hrel
    by_cases hlt : j < n
    · obtain ⟨b, off, rfl, hrow⟩ := HX.out.2.2 (by omega)
      have hjl : j < xs.length := by rw [HX.out.1]; exact hlt
      obtain ⟨x, hx⟩ : ∃ x, xs[j]? = some x := ⟨_, List.getElem?_eq_getElem hjl⟩
      have hr := range_under (hrow j x hx) hb
      have c0 := rangeAt_c0 hr
      have c1 := rangeAt_c1 hr
      have hd : xs.drop j = x :: xs.drop (j + 1) := by
        rw [List.drop_eq_getElem_cons hjl]
        rw [List.getElem?_eq_getElem hjl] at hx
        injection hx with hx
        rw [hx]
      have hfv := (HX.out.2.1 x (List.mem_of_getElem? hx)).v
      rw [hd, List.map_cons, sumFrom_step] at hs
      have i0 : (0 : Int) ≤ (j : Int) := by omega
      have i1 : (j : Int) < (n : Int) := by omega
      have hb1 : Below w.heap.size w (wr.alloc (.cells #[.int .i64 x.v, .slice x.A x.n x.c] 143)) := Below.then_ hb ((Below.refl _ wr).alloc (Nat.le_refl _) _)
      obtain ⟨v, A', n', c', bs'⟩ := x
      simp only at c0 c1 hs hfv hb1
      by_cases hm : money v
      · have m1 := (money_iff v).2 hm
        have v0 : 0 ≤ v := hm.1
        have v1 : v ≤ 2000000000000 := hm.2
        by_cases hm2 : money (t + v)
        · have m2 := (money_iff (t + v)).2 hm2
          have s0 : 0 ≤ t + v := hm2.1
          have s1 : t + v ≤ 2000000000000 := hm2.2
          rw [if_pos ⟨hm, hm2⟩] at hs
          have HS := hide hs
          clear hs hrow hr hx hd hm hm2 hfv
          go_wp2_with (go_at_call 134; refine (Money_any _ _).mono ?_; rintro e w' ⟨rfl, rfl⟩)
          exact ⟨⟨j + 1, t + v, by omega, by simp, rfl, s0, s1, HS.out, hb1⟩, by simp [intOf]; omega⟩
        · have m2 : moneyB (t + v) = false := by unfold moneyB; simpa using hm2
          rw [if_neg (fun h => hm2 h.2)] at hs
          have HS := hide hs
          clear hs hrow hr hx hd hm hm2 hfv
          go_wp2_with (go_at_call 134; refine (Money_any _ _).mono ?_; rintro e w' ⟨rfl, rfl⟩)
          go_ret2
          exact ⟨by rw [HS.out]; rfl, hb1⟩
      · have m1 : moneyB v = false := by unfold moneyB; simpa using hm
        rw [if_neg (fun h => hm h.1)] at hs
        have HS := hide hs
        clear hs hrow hr hx hd hm
        go_wp2_with (go_at_call 134; refine (Money_any _ _).mono ?_; rintro e w' ⟨rfl, rfl⟩)
        go_ret2
        exact ⟨by rw [HS.out]; rfl, hb1⟩
    · obtain rfl : j = n := by omega
      rw [List.drop_of_length_le (by rw [HX.out.1]; exact Nat.le_refl _)] at hs
      have HS := hide hs
      clear hs
      go_wp2
      go_ret2
      exact ⟨by rw [HS.out]; rfl, hb⟩
end Go.Proofs.Ytjnpkcabkccaoaa
/-
  coin: Subsidy; the document's Sum and Subsidy.
-/
namespace Go.Proofs.Ytjnpkcabkccaoaa
open Go.RowKit

theorem shr_sub (q : Int) (h0 : 0 ≤ q) (h1 : q ≤ 63) (w : World) : (Op.shift .shr .i64 5000000000 .i64 q).run Try.prog w = .ok (.int .i64 (5000000000 / 2 ^ q.toNat)) w := by
  have e : min q.toNat IntKind.i64.bits = q.toNat := by simp only [IntKind.bits]; omega
  have hn : ¬ q < 0 := by omega
  unfold Op.shift
  rw [if_neg hn]
  simp only [e, Sem.run_pure]
  rw [Int.fdiv_eq_ediv_of_nonneg _ (Int.le_of_lt (Int.pow_pos (by decide)))]
theorem half_pow (k : Nat) : (5000000000 / 2 ^ k : Int).tdiv 2 = 5000000000 / 2 ^ (k + 1) := by
  have h0 : (0 : Int) ≤ 5000000000 / 2 ^ k := Int.ediv_nonneg (by decide) (Int.le_of_lt (Int.pow_pos (by decide)))
  rw [Int.tdiv_eq_ediv_of_nonneg h0, Int.ediv_ediv_of_nonneg (Int.le_of_lt (Int.pow_pos (by decide))), Int.pow_succ]
set_option maxHeartbeats 2000000 in
set_option maxRecDepth 100000 in
theorem refsum_any (w : World) (A : Option Addr) (n c : Nat) (xs : List OutV) (hX : OutsIn w A n xs) (hn : (n : Int) ≤ 1000000) :
    Calls Try.prog 106 #[.slice A n c] w fun e w' => e = .returned (.tuple #[.int .i64 (sumFrom (xs.map (·.v)) 0).1, .int .i64 (sumFrom (xs.map (·.v)) 0).2]) ∧ Below w.heap.size w w' := by
  have HX := hide hX
  clear hX
  go_enter Try.func106, Try.ntmps106
  go_wp2
  go_loopw [4, 6, 9] (fun s _ i wr => ∃ (j : Nat) (t : Int), j ≤ n ∧ i = .int .i64 j ∧ s = .int .i64 t ∧ 0 ≤ t ∧ t ≤ 2000000000000 ∧ sumFrom (xs.map (·.v)) 0 = sumFrom ((xs.drop j).map (·.v)) t ∧ Below w.heap.size w wr) (fun _ _ i _ => n - (intOf i).toNat)
  case atStart => exact ⟨0, 0, by omega, rfl, rfl, by omega, by omega, by simp, Below.refl _ _⟩
  case round =>
    obtain ⟨j, t, hj, rfl, rfl, t0, t1, hs, hb⟩ := hrel
    by_cases hlt : j < n
    · obtain ⟨b, off, rfl, hrow⟩ := HX.out.2.2 (by omega)
      have hjl : j < xs.length := by rw [HX.out.1]; exact hlt
      obtain ⟨x, hx⟩ : ∃ x, xs[j]? = some x := ⟨_, List.getElem?_eq_getElem hjl⟩
      have hr := range_under (hrow j x hx) hb
      have c0 := rangeAt_c0 hr
      have c1 := rangeAt_c1 hr
      have hd : xs.drop j = x :: xs.drop (j + 1) := by
        rw [List.drop_eq_getElem_cons hjl]
        rw [List.getElem?_eq_getElem hjl] at hx
        injection hx with hx
        rw [hx]
      rw [hd, List.map_cons, sumFrom_step] at hs
      have i0 : (0 : Int) ≤ (j : Int) := by omega
      have i1 : (j : Int) < (n : Int) := by omega
      have hb1 : Below w.heap.size w (wr.alloc (.cells #[.int .i64 x.v, .slice x.A x.n x.c] 143)) := Below.then_ hb ((Below.refl _ wr).alloc (Nat.le_refl _) _)
      obtain ⟨v, A', n', c', bs'⟩ := x
      simp only at c0 c1 hs hb1
      by_cases hm : money v
      · have m1 := (money_iff v).2 hm
        have v0 : 0 ≤ v := hm.1
        have v1 : v ≤ 2000000000000 := hm.2
        by_cases hm2 : v ≤ 2000000000000 - t
        · have hm3 : money (t + v) := ⟨by omega, by omega⟩
          have s0 : 0 ≤ t + v := hm3.1
          have s1 : t + v ≤ 2000000000000 := hm3.2
          rw [if_pos ⟨hm, hm3⟩] at hs
          have HS := hide hs
          clear hs hrow hr hx hd hm hm3
          go_wp2_with (go_at_call 135; refine (refmoney_any _ _).mono ?_; rintro e w' ⟨rfl, rfl⟩)
          exact ⟨⟨j + 1, t + v, by omega, by simp, rfl, s0, s1, HS.out, hb1⟩, by simp [intOf]; omega⟩
        · have hm3 : ¬ money (t + v) := fun h => by have := h.2; omega
          have hm4 : 2000000000000 - t < v := by omega
          rw [if_neg (fun h => hm3 h.2)] at hs
          have HS := hide hs
          clear hs hrow hr hx hd hm hm3 hm2
          go_wp2_with (go_at_call 135; refine (refmoney_any _ _).mono ?_; rintro e w' ⟨rfl, rfl⟩)
          go_ret2
          exact ⟨by rw [HS.out]; rfl, hb1⟩
      · have m1 : moneyB v = false := by unfold moneyB; simpa using hm
        rw [if_neg (fun h => hm h.1)] at hs
        have HS := hide hs
        clear hs hrow hr hx hd hm
        go_wp2_with (go_at_call 135; refine (refmoney_any _ _).mono ?_; rintro e w' ⟨rfl, rfl⟩)
        go_ret2
        exact ⟨by rw [HS.out]; rfl, hb1⟩
    · obtain rfl : j = n := by omega
      rw [List.drop_of_length_le (by rw [HX.out.1]; exact Nat.le_refl _)] at hs
      have HS := hide hs
      clear hs
      go_wp2
      go_ret2
      exact ⟨by rw [HS.out]; rfl, hb⟩
end Go.Proofs.Ytjnpkcabkccaoaa
/-
  coin: outputs as bytes; the same output; the document's.
-/
namespace Go.Proofs.Ytjnpkcabkccaoaa
open Go.RowKit

/-- An append to bytes of one's own, at a step of a region that draws its order. -/
theorem step_app {w : World} {ops : Array Oper} {o : Oper} {a : Act} {K : Act → World → Prop} {Q : Exit → Act → World → Prop} {E : Prop} (hgd : o.guard = none) (d : Nat) (hd : o.dst = some d) (s x : Operand)
    (ho : o.op = .call { callee := .builtin .append, args := #[s, x], argTypes := #[28, 28] })
    (w0 : World) (A : Option Addr) (n c : Nat) (bs : List Int) (hs : a.eval s = .slice A n c) (h : Mine 5 w0 w A n c bs) (B : Option Addr) (m c' : Nat) (cs : List Int) (hx : a.eval x = .slice B m c') (hB : Bys w B m cs) (hlen : n + m ≤ 140737488355328)
    (hK : ∀ A' n' c' w', Mine 5 w0 w' A' n' c' (bs ++ cs) → FrStep w0 A m A' → K (a.put (some d) (.slice A' n' c')) w') :
    if Region.wanted o (yielded ops a.tmps) = true then Oper.wp Try.prog o a w K Q else E := by
  rw [← hd] at hK
  obtain ⟨i, z, hi, hz, hs1, hby, hzs⟩ := u8_info
  obtain ⟨h0, rfl, G, h1, h2⟩ := h
  refine step_append_tail hgd s x 28 ho 5 i z Try.underlying28 hi hz hs1 hby hzs _ bs G hs h1 B m c' cs hx hB hlen fun A' c2 G' w' t' o' g' k' => ?_
  have hG : ∀ i, G' i → w0.heap.size ≤ i := fun i hi => by
    rcases g' i hi with h | h
    · exact h2 i h
    · exact Nat.le_trans h0.size h
  refine hK A' _ c2 w' ⟨h0.trans (o'.below h0.size (fun i hi hg => by have := h2 i hg; omega)), by rw [List.length_append, hB.1], G', t', hG⟩ fun hF => ?_
  rcases k' with ⟨hm, e1⟩ | hk
  · injection e1 with e1 _ _
    subst e1
    rcases hF with hF | hF
    · exact hF
    · omega
  · intro ad e1
    subst e1
    exact hG _ (hk ad.block rfl)

theorem below_alloc {w v : World} (h : Below w.heap.size w v) (o : Obj) : Below w.heap.size w (v.alloc o) := Below.then_ h ((Below.refl _ v).alloc (Nat.le_refl _) o)
theorem below_drew {w v : World} (h : Below w.heap.size w v) : Below w.heap.size w v.drew := h.drew
theorem Byss.one (w w1 : World) (e : TypeId) (A : Option Addr) (n c : Nat) (x : List Int) (h : Bys w A n x) (hc : n ≤ c) (hb : Below w.heap.size w w1) : Byss (w1.alloc (.cells #[.slice A n c] e)) (some ⟨w1.heap.size, 0, none⟩) 1 [x] := by
  refine ⟨rfl, fun _ => ⟨w1.heap.size, 0, rfl, fun j xs hj => ?_⟩⟩
  rcases j with _ | j
  · simp at hj; subst hj
    exact ⟨A, n, c, by rw [Nat.zero_add]; exact (Blk.new w1 e [.slice A n c]).c0, (h.below hb).alloc _, hc⟩
  · simp at hj
theorem u64_wrap (v : Int) : IntKind.u64.wrap v = u64 v := by rw [IntKind.wrap_u64]; rfl
theorem txt_len (b : List Int) : (txt b).length ≤ b.length + 9 := by
  have := (cnt_length b.length).2
  rw [txt, List.length_append]
  omega
theorem text_one (b x : List Int) : b ++ [x].flatMap txt = b ++ txt x := by simp
set_option maxHeartbeats 4000000 in
set_option maxRecDepth 100000 in
theorem OutBytes_any (w : World) (o : OutV) (hf : o.Fine w) (hl : o.n ≤ 1000000) :
    Calls Try.prog 92 #[.agg #[.int .i64 o.v, .slice o.A o.n o.c]] w (MinePost 5 w none o.d.bytes) := by
  obtain ⟨v, A, n, c, bs⟩ := o
  obtain ⟨hv, hB, hc⟩ := hf
  simp only at hv hB hc hl
  have hu := u64_wrap v
  have hU := u64_U64 v
  have hln := hide (show bs.length ≤ 1000000 by rw [hB.1]; exact hl)
  have E : Hid ((⟨v, A, n, c, bs⟩ : OutV).d.bytes = dig (u64 v).toNat 8 ++ [bs].flatMap txt) := hide (by simp [OutV.d, OutD.bytes])
  have W8 : Hid ((Rd.within 8).toNat = 8) := hide (by decide)
  have hb0 : Below w.heap.size w (w.alloc (.cells #[.int .i64 v, .slice A n c] 143)) := below_alloc (Below.refl _ _) _
  have BX := Blk.new w 143 [.int .i64 v, .slice A n c]
  have k0 := BX.c0
  have k1 := BX.c1
  have HX0 := Byss.one w _ 28 A n c bs hB hc hb0
  rw [World.size_alloc] at HX0
  have HX := hide HX0
  clear HX0
  have HBX := hide BX
  clear BX
  go_enter Try.func92, Try.ntmps92
  go_wp2_with fail
  go_region_held (fun w' => w'.cell? ⟨w.heap.size, 0, none⟩ = some (.int .i64 v) ∧ w'.cell? ⟨w.heap.size, 1, none⟩ = some (.slice A n c))
    (first | exact ⟨k0, k1⟩ | exact ⟨(HBX.out.alloc _).c0, (HBX.out.alloc _).c1⟩ | exact ⟨(HB3.out.alloc _).c0, (HB3.out.alloc _).c1⟩)
    (first
      | (go_at_call 89; refine (Fixed_any _ _ none 0 0 [] (u64 v) 8 (Below.refl _ _) (Bys.nil _ _) hU.1 hU.2 (by decide)).mono ?_; rintro e w3 ⟨A3, n3, c3, rfl, t3, f3⟩; have hb3 : Below w.heap.size w w3 := Below.then_ (by first | exact below_drew hb0 | exact below_drew (below_alloc hb0 _) | exact hb0 | exact below_alloc hb0 _ | exact below_drew (below_drew (below_alloc hb0 _))) t3.below; have HB3 : Hid (Blk w3 w.heap.size 143 [.int .i64 v, .slice A n c]) := hide (Blk.under (by first | exact HBX.out | exact HBX.out.alloc _) t3.below); have k0 := HB3.out.c0; have k1 := HB3.out.c1; have hl3 : n3 ≤ 1000000000 := (by have e1 := t3.len; rw [W8.out, List.nil_append, dig_length] at e1; omega))
      | (go_at_call 91; refine (Text_any _ _ A3 n3 c3 _ _ 1 1 [bs] (Below.refl _ _) (by first | exact t3.bys | exact t3.bys.alloc _) (by first | exact Byss.one w w3 28 A n c bs hB hc hb3 | exact HX.out.below t3.below | exact (HX.out.below ((Below.refl _ _).drew)).below t3.below) hl3 (by decide) (by intro x hx; simp at hx; subst hx; exact hln.out)).mono ?_; rintro e w4 ⟨A4, n4, c4, rfl, t4, f4⟩; have hb4 : Below w.heap.size w w4 := Below.then_ (by first | exact below_drew hb3 | exact below_drew (below_alloc hb3 _) | exact hb3 | exact below_alloc hb3 _ | exact below_drew (below_drew (below_alloc hb3 _))) t4.below; have k0 : w4.cell? ⟨w.heap.size, 0, none⟩ = some (.int .i64 v) := cell_under t4.below (by first | exact HB3.out.c0 | exact (HB3.out.alloc _).c0); have k1 : w4.cell? ⟨w.heap.size, 1, none⟩ = some (.slice A n c) := cell_under t4.below (by first | exact HB3.out.c1 | exact (HB3.out.alloc _).c1)))
  all_goals
    go_wp2
    go_ret
    rw [E.out, ← W8.out]
    first
    | exact MinePost.mk (by rw [← List.nil_append (dig _ _)]; exact t4.older hb3) ((f4 (Fr.none _)).older hb3)
    | exact MinePost.mk (by rw [← List.nil_append (dig _ _)]; exact t4.older (below_alloc hb3 _)) ((f4 (Fr.none _)).older (below_alloc hb3 _))
    | exact MinePost.mk (by rw [← List.nil_append (dig _ _)]; exact t4.older (below_drew hb3)) ((f4 (Fr.none _)).older (below_drew hb3))
set_option maxHeartbeats 4000000 in
set_option maxRecDepth 100000 in
theorem refOutBytes_any (w : World) (o : OutV) (hf : o.Fine w) (hl : o.n ≤ 1000000) :
    Calls Try.prog 97 #[.agg #[.int .i64 o.v, .slice o.A o.n o.c]] w (MinePost 5 w none o.d.bytes) := by
  obtain ⟨v, A, n, c, bs⟩ := o
  obtain ⟨hv, hB, hc⟩ := hf
  simp only at hv hB hc hl
  have hu := u64_wrap v
  have hU := u64_U64 v
  have hln := hide (show bs.length ≤ 1000000 by rw [hB.1]; exact hl)
  have E : Hid ((⟨v, A, n, c, bs⟩ : OutV).d.bytes = dig (u64 v).toNat 8 ++ txt bs) := hide (by simp [OutV.d, OutD.bytes])
  have W8 : Hid ((Rd.within 8).toNat = 8) := hide (by decide)
  have hb0 : Below w.heap.size w (w.alloc (.cells #[.int .i64 v, .slice A n c] 143)) := below_alloc (Below.refl _ _) _
  have BX := Blk.new w 143 [.int .i64 v, .slice A n c]
  have k0 := BX.c0
  have k1 := BX.c1
  have HBX := hide BX
  have HL : Hid (n ≤ 1000000) := hide hl
  clear BX hl
  have HB := hide hB
  clear hB
  go_enter Try.func97, Try.ntmps97
  go_wp2_with fail
  go_region_held_law (fun w' => w'.cell? ⟨w.heap.size, 0, none⟩ = some (.int .i64 v) ∧ w'.cell? ⟨w.heap.size, 1, none⟩ = some (.slice A n c))
    (exact ⟨k0, k1⟩)
    (first
      | (go_at_call 94; refine (reffixed_any _ _ (u64 v) 8 (Below.refl _ _) hU.1 hU.2).mono ?_; rintro e w3 ⟨A3, n3, c3, rfl, t3, f3⟩; have hb3 : Below w.heap.size w w3 := Below.then_ (by first | exact hb0 | exact below_drew hb0) t3.below; have HB3 : Hid (Blk w3 w.heap.size 143 [.int .i64 v, .slice A n c]) := hide (Blk.under (by exact HBX.out) t3.below); have k0 := HB3.out.c0; have k1 := HB3.out.c1)
      | (go_at_call 96; refine (reftext_any _ _ A n c bs (Below.refl _ _) (HB.out.below hb3) (by have := HL.out; omega)).mono ?_; rintro e w4 ⟨A4, n4, c4, rfl, t4, f4⟩; have hb4 : Below w.heap.size w w4 := Below.then_ hb3 t4.below; have k0 : w4.cell? ⟨w.heap.size, 0, none⟩ = some (.int .i64 v) := cell_under t4.below HB3.out.c0; have k1 : w4.cell? ⟨w.heap.size, 1, none⟩ = some (.slice A n c) := cell_under t4.below HB3.out.c1)
      | (refine step_app (by rfl) _ (by rfl) _ _ (by rfl) _ A3 n3 c3 _ (by rfl) (t3.keep t4.below) A4 n4 c4 _ (by rfl) t4.bys (by have e1 := t3.len; have e2 := t4.len; have e3 := HL.out; have e4 := HB.out.1; rw [W8.out, dig_length] at e1; have e5 := txt_len bs; omega) ?_; intro A5 n5 c5 w5 t5 f5; have hb5 : Below w.heap.size w w5 := Below.then_ (by first | exact hb0 | exact below_drew hb0) t5.below; have k0 : w5.cell? ⟨w.heap.size, 0, none⟩ = some (.int .i64 v) := cell_under t5.below (by exact HBX.out.c0); have k1 : w5.cell? ⟨w.heap.size, 1, none⟩ = some (.slice A n c) := cell_under t5.below (by exact HBX.out.c1)))
  all_goals
    go_wp2
    go_ret
    rw [E.out, ← W8.out]
    first
    | exact MinePost.mk (t5.older hb0) (by intro ad hA5; exact (f5 (.inl (f3 (Fr.none _))) ad hA5) |> Nat.le_trans hb0.size)
    | exact MinePost.mk (t5.older (below_drew hb0)) (by intro ad hA5; exact (f5 (.inl (f3 (Fr.none _))) ad hA5) |> Nat.le_trans hb0.size)
end Go.Proofs.Ytjnpkcabkccaoaa
