/-
  coin: the same output; the same coin (the document's).
-/
import Derived.Test.YtfloclamdpageaaCoinC
namespace Go.Proofs.Ytfloclamdpageaa
open Go.RowKit

theorem ba_eq_iff (a b : List Int) (ha : Byt a) (hb : Byt b) : ba a = ba b ↔ a = b := ⟨ba_inj a b ha hb, fun h => by rw [h]⟩
theorem ba_beq (a b : List Int) (ha : Byt a) (hb : Byt b) : ((ba a).toList == (ba b).toList) = decide (a = b) := by
  have e : ((ba a).toList = (ba b).toList) ↔ a = b := by
    rw [← ba_eq_iff a b ha hb, ByteArray.toList_eq, ByteArray.toList_eq]
    constructor
    · intro h
      have : (ba a).data = (ba b).data := Array.ext' h
      cases h1 : ba a with | mk x => cases h2 : ba b with | mk y => rw [h1, h2] at this; simp at this; rw [this]
    · intro h; rw [h]
  rw [Bool.eq_iff_iff]
  simp [e]
set_option maxHeartbeats 1000000 in
theorem Equal_any (w : World) (A B : Option Addr) (n c m d : Nat) (xs ys : List Int) (hA : Bys w A n xs) (hB : Bys w B m ys) :
    Calls Try.prog 67 #[.slice A n c, .slice B m d] w fun e w' => e = .returned (.bool (decide (xs = ys))) ∧ w = w' := by
  have s1 := run_str w A n c _ hA
  have s2 := run_str w B m d _ hB
  have E : Hid (((ba xs).toList == (ba ys).toList) = decide (xs = ys)) := hide (ba_beq xs ys hA.2.1 hB.2.1)
  clear hA hB
  generalize ba xs = S at s1 E
  generalize ba ys = T at s2 E
  go_enter Try.func67, Try.ntmps67
  go_wp2
  go_ret
  exact ⟨by rw [← E.out]; rfl, rfl⟩
def OutD.same (a b : OutD) : Bool := decide (a.value = b.value ∧ a.lock = b.lock)
set_option maxHeartbeats 1000000 in
set_option maxRecDepth 100000 in
theorem refSame_any (w : World) (a b : OutV) (ha : a.Fine w) (hb : b.Fine w) :
    Calls Try.prog 37 #[.agg #[.int .i64 a.v, .slice a.A a.n a.c], .agg #[.int .i64 b.v, .slice b.A b.n b.c]] w fun e w' => e = .returned (.bool (a.d.same b.d)) ∧ Below w.heap.size w w' := by
  obtain ⟨v, A, n, c, xs⟩ := a
  obtain ⟨u, B, m, d, ys⟩ := b
  obtain ⟨hv, hA, _⟩ := ha
  obtain ⟨hu, hB, _⟩ := hb
  simp only at hv hu hA hB
  have hb1 : Below w.heap.size w ((w.alloc (.cells #[.int .i64 v, .slice A n c] 24)).alloc (.cells #[.int .i64 u, .slice B m d] 24)) := below_alloc (below_alloc (Below.refl _ _) _) _
  have s1 := run_str _ A n c _ (hA.below hb1)
  have s2 := run_str _ B m d _ (hB.below hb1)
  have E : Hid (((ba xs).toList == (ba ys).toList) = decide (xs = ys)) := hide (ba_beq xs ys hA.2.1 hB.2.1)
  clear hA hB
  generalize ba xs = S at s1 E
  generalize ba ys = T at s2 E
  by_cases h : v = u
  · subst h
    go_enter Try.func37, Try.ntmps37
    go_wp2
    go_ret
    exact ⟨by have e : OutD.same (OutV.d ⟨v, A, n, c, xs⟩) (OutV.d ⟨v, B, m, d, ys⟩) = decide (xs = ys) := (by simp [OutD.same, OutV.d]); rw [e, ← E.out]; rfl, hb1⟩
  · have h' : (v == u) = false := by simpa using h
    go_enter Try.func37, Try.ntmps37
    go_wp2
    go_ret
    exact ⟨by have e : OutD.same (OutV.d ⟨v, A, n, c, xs⟩) (OutV.d ⟨u, B, m, d, ys⟩) = false := (by simp [OutD.same, OutV.d, h]); rw [e]; rfl, hb1⟩
set_option maxHeartbeats 1000000 in
set_option maxRecDepth 100000 in
theorem Same_any (w : World) (a b : OutV) (ha : a.Fine w) (hb : b.Fine w) :
    Calls Try.prog 30 #[.agg #[.int .i64 a.v, .slice a.A a.n a.c], .agg #[.int .i64 b.v, .slice b.A b.n b.c]] w fun e w' => e = .returned (.bool (a.d.same b.d)) ∧ Below w.heap.size w w' := by
  obtain ⟨v, A, n, c, xs⟩ := a
  obtain ⟨u, B, m, d, ys⟩ := b
  obtain ⟨hv, hA, _⟩ := ha
  obtain ⟨hu, hB, _⟩ := hb
  simp only at hv hu hA hB
  have hb1 : Below w.heap.size w ((w.alloc (.cells #[.int .i64 v, .slice A n c] 24)).alloc (.cells #[.int .i64 u, .slice B m d] 24)) := below_alloc (below_alloc (Below.refl _ _) _) _
  have HA := hide (hA.below hb1)
  have HB := hide (hB.below hb1)
  clear hA hB
  by_cases h : v = u
  · subst h
    go_enter Try.func30, Try.ntmps30
    go_wp2_with (go_at_call 67; refine (Equal_any _ A B n c m d xs ys HA.out HB.out).mono ?_; rintro e w' ⟨rfl, rfl⟩)
    go_ret
    exact ⟨by have e : OutD.same (OutV.d ⟨v, A, n, c, xs⟩) (OutV.d ⟨v, B, m, d, ys⟩) = decide (xs = ys) := (by simp [OutD.same, OutV.d]); rw [e]; rfl, hb1⟩
  · have h' : (v == u) = false := by simpa using h
    go_enter Try.func30, Try.ntmps30
    go_wp2
    go_ret
    exact ⟨by have e : OutD.same (OutV.d ⟨v, A, n, c, xs⟩) (OutV.d ⟨u, B, m, d, ys⟩) = false := (by simp [OutD.same, OutV.d, h]); rw [e]; rfl, hb1⟩
/-- A coin in memory. -/
structure CoinV where
  out : OutV
  h : Int
  base : Bool
def CoinV.d (c : CoinV) : CoinD := ⟨c.out.d, c.h, c.base⟩
def CoinV.val (c : CoinV) : Value := .agg #[.int .i64 c.out.v, .slice c.out.A c.out.n c.out.c, .int .i64 c.h, .bool c.base]
structure CoinV.Fine (w : World) (c : CoinV) : Prop where
  out : c.out.Fine w
  h : -9223372036854775808 ≤ c.h ∧ c.h ≤ 9223372036854775807
def CoinD.same (a b : CoinD) : Bool := decide (a.out.same b.out = true ∧ a.height = b.height ∧ a.base = b.base)
set_option maxHeartbeats 2000000 in
set_option maxRecDepth 100000 in
theorem SameCoin_any (w : World) (a b : CoinV) (ha : a.Fine w) (hb : b.Fine w) :
    Calls Try.prog 18 #[a.val, b.val] w fun e w' => e = .returned (.bool (a.d.same b.d)) ∧ Below w.heap.size w w' := by
  obtain ⟨⟨v, A, n, c, xs⟩, h, p⟩ := a
  obtain ⟨⟨u, B, m, d, ys⟩, k, q⟩ := b
  obtain ⟨hv, hh⟩ := ha
  obtain ⟨hu, hk⟩ := hb
  simp only at hv hh hu hk
  have hb1 : Below w.heap.size w ((w.alloc (.cells #[.int .i64 v, .slice A n c, .int .i64 h, .bool p] 26)).alloc (.cells #[.int .i64 u, .slice B m d, .int .i64 k, .bool q] 26)) := below_alloc (below_alloc (Below.refl _ _) _) _
  have HA := hide (hv.below hb1)
  have HB := hide (hu.below hb1)
  obtain ⟨S, hS⟩ : ∃ S, S = OutD.same ⟨v, xs⟩ ⟨u, ys⟩ := ⟨_, rfl⟩
  have E : Hid (CoinD.same (CoinV.d ⟨⟨v, A, n, c, xs⟩, h, p⟩) (CoinV.d ⟨⟨u, B, m, d, ys⟩, k, q⟩) = (S && decide (h = k) && decide (p = q))) := hide (by
    rw [hS]; simp only [CoinD.same, CoinV.d, OutV.d]; by_cases h1 : OutD.same ⟨v, xs⟩ ⟨u, ys⟩ = true <;> by_cases h2 : h = k <;> by_cases h3 : p = q <;> simp [h1, h2, h3])
  clear hv hu
  show Calls Try.prog 18 #[.agg #[.int .i64 v, .slice A n c, .int .i64 h, .bool p], .agg #[.int .i64 u, .slice B m d, .int .i64 k, .bool q]] w _
  have BB := Blk.new (w.alloc (.cells #[.int .i64 v, .slice A n c, .int .i64 h, .bool p] 26)) 26 [.int .i64 u, .slice B m d, .int .i64 k, .bool q]
  have BA := (Blk.new w 26 [.int .i64 v, .slice A n c, .int .i64 h, .bool p]).alloc (.cells #[.int .i64 u, .slice B m d, .int .i64 k, .bool q] 26)
  rw [World.size_alloc] at BB
  have HBA := hide BA
  have HBB := hide BB
  clear BA BB
  go_enter Try.func18, Try.ntmps18
  go_wp2_with fail
  refine (refSame_any _ ⟨v, A, n, c, xs⟩ ⟨u, B, m, d, ys⟩ HA.out HB.out).mono ?_
  rintro e w2 ⟨rfl, hb2⟩
  have hb3 := Below.then_ hb1 hb2
  have c2 := (Blk.under HBA.out hb2).c2
  have c3 := (Blk.under HBA.out hb2).c3
  have d2 := (Blk.under HBB.out hb2).c2
  have d3 := (Blk.under HBB.out hb2).c3
  rw [show OutD.same (OutV.d ⟨v, A, n, c, xs⟩) (OutV.d ⟨u, B, m, d, ys⟩) = S from hS.symm]
  clear hS hb1 hb2 HA HB HBA HBB
  cases S
  · go_wp2
    go_ret
    exact ⟨by rw [E.out]; rfl, hb3⟩
  · by_cases h1 : h = k
    · subst h1
      cases p <;> cases q
      all_goals
        go_wp2
        go_ret
        exact ⟨by rw [E.out]; simp, hb3⟩
    · have h2 : (h == k) = false := by simpa using h1
      have h3 := hide h1
      clear h1
      go_wp2
      go_ret
      exact ⟨by rw [E.out]; simp [h3.out], hb3⟩
def CoinD.n64 (c : CoinD) : Int := (2 * c.height + (if c.base then 1 else 0)) % 18446744073709551616
theorem n64_eq (c : CoinD) : c.n64 = (2 * c.height + (if c.base then 1 else 0)) % 18446744073709551616 := rfl
def CoinD.bytes64 (c : CoinD) : List Int := cnt c.n64.toNat ++ c.out.bytes
set_option maxHeartbeats 4000000 in
set_option maxRecDepth 100000 in
theorem CoinBytes_any (w : World) (a : CoinV) (ha : a.Fine w) (hl : a.out.n ≤ 1000000) :
    Calls Try.prog 19 #[a.val] w (MinePost 5 w none a.d.bytes64) := by
  obtain ⟨⟨v, A, n, c, xs⟩, h, p⟩ := a
  obtain ⟨hv, hh⟩ := ha
  simp only at hv hh hl
  have hb1 : Below w.heap.size w (w.alloc (.cells #[.int .i64 v, .slice A n c, .int .i64 h, .bool p] 26)) := below_alloc (Below.refl _ _) _
  have HA := hide (hv.below hb1)
  have HL := hide hl
  have BA := Blk.new w 26 [.int .i64 v, .slice A n c, .int .i64 h, .bool p]
  have HBA := hide BA
  have k0 := BA.c0
  have k1 := BA.c1
  have hu := u64_wrap h
  have hlen := hide (show (OutD.bytes (OutV.d ⟨v, A, n, c, xs⟩)).length ≤ n + 17 from by
    have h1 := txt_len xs
    have h2 := hv.bys.1
    simp only [OutD.bytes, OutV.d, List.length_append, dig_length] at *
    omega)
  have E0 := n64_eq (CoinV.d ⟨⟨v, A, n, c, xs⟩, h, p⟩)
  show Calls Try.prog 19 #[.agg #[.int .i64 v, .slice A n c, .int .i64 h, .bool p]] w _
  obtain ⟨M, hM⟩ : ∃ M, M = (2 * h) % 18446744073709551616 := ⟨_, rfl⟩
  have hm : IntKind.u64.wrap (2 * u64 h) = M := by rw [IntKind.wrap_u64, hM]; unfold u64; omega
  obtain ⟨OB, hOB⟩ : ∃ OB, OB = OutD.bytes (OutV.d ⟨v, A, n, c, xs⟩) := ⟨_, rfl⟩
  obtain ⟨N, hN, hN0, hN1, hm2⟩ : ∃ N : Int, N = CoinD.n64 (CoinV.d ⟨⟨v, A, n, c, xs⟩, h, p⟩) ∧ 0 ≤ N ∧ N < 18446744073709551616 ∧ (p = true → IntKind.u64.wrap (M + 1) = N) ∧ (p = false → M = N) := by
    refine ⟨_, rfl, by unfold CoinD.n64; omega, by unfold CoinD.n64; omega, fun hp => ?_, fun hp => ?_⟩
    · rw [IntKind.wrap_u64, hM, hp]; simp only [CoinD.n64, CoinV.d, if_true]; omega
    · rw [hM, hp]; simp [CoinD.n64, CoinV.d]
  have E : Hid (CoinD.bytes64 (CoinV.d ⟨⟨v, A, n, c, xs⟩, h, p⟩) = cnt N.toNat ++ OB) := hide (by rw [hOB, hN]; rfl)
  have HN := hide (And.intro hN0 hN1)
  rw [← hOB] at hlen
  have HOB := hide hOB
  clear hl hv BA hM hN hN0 hN1 hOB
  go_enter Try.func19, Try.ntmps19
  cases p
  · have hMN : M = N := hm2.2 rfl
    rw [hMN] at hm
    clear hMN
    go_wp2_with fail
    go_region_held_law (fun w' => w'.cell? ⟨w.heap.size, 0, none⟩ = some (.int .i64 v) ∧ w'.cell? ⟨w.heap.size, 1, none⟩ = some (.slice A n c))
      (exact ⟨k0, k1⟩)
      (first
        | (go_at_call 62; (refine (Count_any _ _ none 0 0 [] N (Below.refl _ _) (Bys.nil _ _) (Nat.le_refl _) HN.out.1 HN.out.2 (by decide)).mono ?_; rintro e w3 ⟨A3, n3, c3, rfl, t3, f3⟩; have hb3 : Below w.heap.size w w3 := Below.then_ (by first | exact hb1 | exact below_drew hb1) t3.below; have HB3 : Hid (Blk w3 w.heap.size 26 [.int .i64 v, .slice A n c, .int .i64 h, .bool false]) := hide (Blk.under (by exact HBA.out) t3.below); have k0 := HB3.out.c0; have k1 := HB3.out.c1; have HA3 : Hid (OutV.Fine w3 ⟨v, A, n, c, xs⟩) := hide (by first | exact (HA.out.below ((Below.refl _ _).drew)).below t3.below | exact HA.out.below t3.below)))
        | (go_at_call 27; refine (OutBytes_any _ ⟨v, A, n, c, xs⟩ HA3.out HL.out).mono ?_; rintro e w4 ⟨A4, n4, c4, rfl, t4, f4⟩; rw [← HOB.out] at t4; have hb4 : Below w.heap.size w w4 := Below.then_ hb3 t4.below; have k0 : w4.cell? ⟨w.heap.size, 0, none⟩ = some (.int .i64 v) := cell_under t4.below HB3.out.c0; have k1 : w4.cell? ⟨w.heap.size, 1, none⟩ = some (.slice A n c) := cell_under t4.below HB3.out.c1)
        | (refine step_app (by rfl) _ (by rfl) _ _ (by rfl) _ A3 n3 c3 _ (by rfl) (t3.keep t4.below) A4 n4 c4 _ (by rfl) t4.bys (by have e1 := t3.len; have e2 := t4.len; have e3 := HL.out; have e5 := hlen.out; have e6 := (cnt_length N.toNat).2; (try simp only [List.nil_append] at e1); omega) ?_; intro A5 n5 c5 w5 t5 f5; have hb5 : Below w.heap.size w w5 := Below.then_ (by first | exact hb1 | exact below_drew hb1) t5.below; have k0 : w5.cell? ⟨w.heap.size, 0, none⟩ = some (.int .i64 v) := cell_under t5.below (by exact HBA.out.c0); have k1 : w5.cell? ⟨w.heap.size, 1, none⟩ = some (.slice A n c) := cell_under t5.below (by exact HBA.out.c1)))
    all_goals
      go_wp2
      go_ret
      rw [E.out]
      first
      | exact MinePost.mk (t5.older hb1) (by intro ad hA5; exact (f5 (.inl (f3 (Fr.none _))) ad hA5) |> Nat.le_trans hb1.size)
      | exact MinePost.mk (t5.older (below_drew hb1)) (by intro ad hA5; exact (f5 (.inl (f3 (Fr.none _))) ad hA5) |> Nat.le_trans hb1.size)
  · have hm3 := hm2.1 rfl
    go_wp2_with fail
    go_region_held_law (fun w' => w'.cell? ⟨w.heap.size, 0, none⟩ = some (.int .i64 v) ∧ w'.cell? ⟨w.heap.size, 1, none⟩ = some (.slice A n c))
      (exact ⟨k0, k1⟩)
      (first
        | (go_at_call 62; (refine (Count_any _ _ none 0 0 [] N (Below.refl _ _) (Bys.nil _ _) (Nat.le_refl _) HN.out.1 HN.out.2 (by decide)).mono ?_; rintro e w3 ⟨A3, n3, c3, rfl, t3, f3⟩; have hb3 : Below w.heap.size w w3 := Below.then_ (by first | exact hb1 | exact below_drew hb1) t3.below; have HB3 : Hid (Blk w3 w.heap.size 26 [.int .i64 v, .slice A n c, .int .i64 h, .bool true]) := hide (Blk.under (by exact HBA.out) t3.below); have k0 := HB3.out.c0; have k1 := HB3.out.c1; have HA3 : Hid (OutV.Fine w3 ⟨v, A, n, c, xs⟩) := hide (by first | exact (HA.out.below ((Below.refl _ _).drew)).below t3.below | exact HA.out.below t3.below)))
        | (go_at_call 27; refine (OutBytes_any _ ⟨v, A, n, c, xs⟩ HA3.out HL.out).mono ?_; rintro e w4 ⟨A4, n4, c4, rfl, t4, f4⟩; rw [← HOB.out] at t4; have hb4 : Below w.heap.size w w4 := Below.then_ hb3 t4.below; have k0 : w4.cell? ⟨w.heap.size, 0, none⟩ = some (.int .i64 v) := cell_under t4.below HB3.out.c0; have k1 : w4.cell? ⟨w.heap.size, 1, none⟩ = some (.slice A n c) := cell_under t4.below HB3.out.c1)
        | (refine step_app (by rfl) _ (by rfl) _ _ (by rfl) _ A3 n3 c3 _ (by rfl) (t3.keep t4.below) A4 n4 c4 _ (by rfl) t4.bys (by have e1 := t3.len; have e2 := t4.len; have e3 := HL.out; have e5 := hlen.out; have e6 := (cnt_length N.toNat).2; (try simp only [List.nil_append] at e1); omega) ?_; intro A5 n5 c5 w5 t5 f5; have hb5 : Below w.heap.size w w5 := Below.then_ (by first | exact hb1 | exact below_drew hb1) t5.below; have k0 : w5.cell? ⟨w.heap.size, 0, none⟩ = some (.int .i64 v) := cell_under t5.below (by exact HBA.out.c0); have k1 : w5.cell? ⟨w.heap.size, 1, none⟩ = some (.slice A n c) := cell_under t5.below (by exact HBA.out.c1)))
    all_goals
      go_wp2
      go_ret
      rw [E.out]
      first
      | exact MinePost.mk (t5.older hb1) (by intro ad hA5; exact (f5 (.inl (f3 (Fr.none _))) ad hA5) |> Nat.le_trans hb1.size)
      | exact MinePost.mk (t5.older (below_drew hb1)) (by intro ad hA5; exact (f5 (.inl (f3 (Fr.none _))) ad hA5) |> Nat.le_trans hb1.size)
set_option maxHeartbeats 4000000 in
set_option maxRecDepth 100000 in
theorem refCoinBytes_any (w : World) (a : CoinV) (ha : a.Fine w) (hl : a.out.n ≤ 1000000) :
    Calls Try.prog 17 #[a.val] w (MinePost 5 w none a.d.bytes64) := by
  obtain ⟨⟨v, A, n, c, xs⟩, h, p⟩ := a
  obtain ⟨hv, hh⟩ := ha
  simp only at hv hh hl
  have hb1 : Below w.heap.size w (w.alloc (.cells #[.int .i64 v, .slice A n c, .int .i64 h, .bool p] 26)) := below_alloc (Below.refl _ _) _
  have HA := hide (hv.below hb1)
  have HL := hide hl
  have BA := Blk.new w 26 [.int .i64 v, .slice A n c, .int .i64 h, .bool p]
  have HBA := hide BA
  have k0 := BA.c0
  have k1 := BA.c1
  have hu := u64_wrap h
  have hlen := hide (show (OutD.bytes (OutV.d ⟨v, A, n, c, xs⟩)).length ≤ n + 17 from by
    have h1 := txt_len xs
    have h2 := hv.bys.1
    simp only [OutD.bytes, OutV.d, List.length_append, dig_length] at *
    omega)
  have E0 := n64_eq (CoinV.d ⟨⟨v, A, n, c, xs⟩, h, p⟩)
  show Calls Try.prog 17 #[.agg #[.int .i64 v, .slice A n c, .int .i64 h, .bool p]] w _
  obtain ⟨M, hM⟩ : ∃ M, M = (2 * h) % 18446744073709551616 := ⟨_, rfl⟩
  have hm : IntKind.u64.wrap (u64 h * 2) = M := by rw [IntKind.wrap_u64, hM]; unfold u64; omega
  obtain ⟨OB, hOB⟩ : ∃ OB, OB = OutD.bytes (OutV.d ⟨v, A, n, c, xs⟩) := ⟨_, rfl⟩
  obtain ⟨N, hN, hN0, hN1, hm2⟩ : ∃ N : Int, N = CoinD.n64 (CoinV.d ⟨⟨v, A, n, c, xs⟩, h, p⟩) ∧ 0 ≤ N ∧ N < 18446744073709551616 ∧ (p = true → IntKind.u64.wrap (M + 1) = N) ∧ (p = false → M = N) := by
    refine ⟨_, rfl, by unfold CoinD.n64; omega, by unfold CoinD.n64; omega, fun hp => ?_, fun hp => ?_⟩
    · rw [IntKind.wrap_u64, hM, hp]; simp only [CoinD.n64, CoinV.d, if_true]; omega
    · rw [hM, hp]; simp [CoinD.n64, CoinV.d]
  have E : Hid (CoinD.bytes64 (CoinV.d ⟨⟨v, A, n, c, xs⟩, h, p⟩) = cnt N.toNat ++ OB) := hide (by rw [hOB, hN]; rfl)
  have HN := hide (And.intro hN0 hN1)
  rw [← hOB] at hlen
  have HOB := hide hOB
  clear hl hv BA hM hN hN0 hN1 hOB
  go_enter Try.func17, Try.ntmps17
  cases p
  · have hMN : M = N := hm2.2 rfl
    rw [hMN] at hm
    clear hMN
    go_wp2_with fail
    go_region_held_law (fun w' => w'.cell? ⟨w.heap.size, 0, none⟩ = some (.int .i64 v) ∧ w'.cell? ⟨w.heap.size, 1, none⟩ = some (.slice A n c))
      (exact ⟨k0, k1⟩)
      (first
        | (go_at_call 61; (refine (refcount_any _ _ N (Below.refl _ _) HN.out.1 HN.out.2).mono ?_; rintro e w3 ⟨A3, n3, c3, rfl, t3, f3⟩; have hb3 : Below w.heap.size w w3 := Below.then_ (by first | exact hb1 | exact below_drew hb1) t3.below; have HB3 : Hid (Blk w3 w.heap.size 26 [.int .i64 v, .slice A n c, .int .i64 h, .bool false]) := hide (Blk.under (by exact HBA.out) t3.below); have k0 := HB3.out.c0; have k1 := HB3.out.c1; have HA3 : Hid (OutV.Fine w3 ⟨v, A, n, c, xs⟩) := hide (by first | exact (HA.out.below ((Below.refl _ _).drew)).below t3.below | exact HA.out.below t3.below)))
        | (go_at_call 29; refine (refOutBytes_any _ ⟨v, A, n, c, xs⟩ HA3.out HL.out).mono ?_; rintro e w4 ⟨A4, n4, c4, rfl, t4, f4⟩; rw [← HOB.out] at t4; have hb4 : Below w.heap.size w w4 := Below.then_ hb3 t4.below; have k0 : w4.cell? ⟨w.heap.size, 0, none⟩ = some (.int .i64 v) := cell_under t4.below HB3.out.c0; have k1 : w4.cell? ⟨w.heap.size, 1, none⟩ = some (.slice A n c) := cell_under t4.below HB3.out.c1)
        | (refine step_app (by rfl) _ (by rfl) _ _ (by rfl) _ A3 n3 c3 _ (by rfl) (t3.keep t4.below) A4 n4 c4 _ (by rfl) t4.bys (by have e1 := t3.len; have e2 := t4.len; have e3 := HL.out; have e5 := hlen.out; have e6 := (cnt_length N.toNat).2; (try simp only [List.nil_append] at e1); omega) ?_; intro A5 n5 c5 w5 t5 f5; have hb5 : Below w.heap.size w w5 := Below.then_ (by first | exact hb1 | exact below_drew hb1) t5.below; have k0 : w5.cell? ⟨w.heap.size, 0, none⟩ = some (.int .i64 v) := cell_under t5.below (by exact HBA.out.c0); have k1 : w5.cell? ⟨w.heap.size, 1, none⟩ = some (.slice A n c) := cell_under t5.below (by exact HBA.out.c1)))
    all_goals
      go_wp2
      go_ret
      rw [E.out]
      first
      | exact MinePost.mk (t5.older hb1) (by intro ad hA5; exact (f5 (.inl (f3 (Fr.none _))) ad hA5) |> Nat.le_trans hb1.size)
      | exact MinePost.mk (t5.older (below_drew hb1)) (by intro ad hA5; exact (f5 (.inl (f3 (Fr.none _))) ad hA5) |> Nat.le_trans hb1.size)
  · have hm3 := hm2.1 rfl
    go_wp2_with fail
    go_region_held_law (fun w' => w'.cell? ⟨w.heap.size, 0, none⟩ = some (.int .i64 v) ∧ w'.cell? ⟨w.heap.size, 1, none⟩ = some (.slice A n c))
      (exact ⟨k0, k1⟩)
      (first
        | (go_at_call 61; (refine (refcount_any _ _ N (Below.refl _ _) HN.out.1 HN.out.2).mono ?_; rintro e w3 ⟨A3, n3, c3, rfl, t3, f3⟩; have hb3 : Below w.heap.size w w3 := Below.then_ (by first | exact hb1 | exact below_drew hb1) t3.below; have HB3 : Hid (Blk w3 w.heap.size 26 [.int .i64 v, .slice A n c, .int .i64 h, .bool true]) := hide (Blk.under (by exact HBA.out) t3.below); have k0 := HB3.out.c0; have k1 := HB3.out.c1; have HA3 : Hid (OutV.Fine w3 ⟨v, A, n, c, xs⟩) := hide (by first | exact (HA.out.below ((Below.refl _ _).drew)).below t3.below | exact HA.out.below t3.below)))
        | (go_at_call 29; refine (refOutBytes_any _ ⟨v, A, n, c, xs⟩ HA3.out HL.out).mono ?_; rintro e w4 ⟨A4, n4, c4, rfl, t4, f4⟩; rw [← HOB.out] at t4; have hb4 : Below w.heap.size w w4 := Below.then_ hb3 t4.below; have k0 : w4.cell? ⟨w.heap.size, 0, none⟩ = some (.int .i64 v) := cell_under t4.below HB3.out.c0; have k1 : w4.cell? ⟨w.heap.size, 1, none⟩ = some (.slice A n c) := cell_under t4.below HB3.out.c1)
        | (refine step_app (by rfl) _ (by rfl) _ _ (by rfl) _ A3 n3 c3 _ (by rfl) (t3.keep t4.below) A4 n4 c4 _ (by rfl) t4.bys (by have e1 := t3.len; have e2 := t4.len; have e3 := HL.out; have e5 := hlen.out; have e6 := (cnt_length N.toNat).2; (try simp only [List.nil_append] at e1); omega) ?_; intro A5 n5 c5 w5 t5 f5; have hb5 : Below w.heap.size w w5 := Below.then_ (by first | exact hb1 | exact below_drew hb1) t5.below; have k0 : w5.cell? ⟨w.heap.size, 0, none⟩ = some (.int .i64 v) := cell_under t5.below (by exact HBA.out.c0); have k1 : w5.cell? ⟨w.heap.size, 1, none⟩ = some (.slice A n c) := cell_under t5.below (by exact HBA.out.c1)))
    all_goals
      go_wp2
      go_ret
      rw [E.out]
      first
      | exact MinePost.mk (t5.older hb1) (by intro ad hA5; exact (f5 (.inl (f3 (Fr.none _))) ad hA5) |> Nat.le_trans hb1.size)
      | exact MinePost.mk (t5.older (below_drew hb1)) (by intro ad hA5; exact (f5 (.inl (f3 (Fr.none _))) ad hA5) |> Nat.le_trans hb1.size)
end Go.Proofs.Ytfloclamdpageaa
