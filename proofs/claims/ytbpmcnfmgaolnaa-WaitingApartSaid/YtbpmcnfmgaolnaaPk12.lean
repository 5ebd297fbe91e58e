import Derived.Test.YtbpmcnfmgaolnaaPk9
/-
  A transaction's bytes: read back with anything behind them; cut off anywhere they are too short. Plain laws.
-/
namespace Go.Proofs.Ytbpmcnfmgaolnaa
open Go.RowKit

/-- What reads just B and gives v; cut off in B it is too short; behind an error it does nothing. -/
structure Steps {α : Type} (f : Rd → α × Rd) (B : List Int) (v : α) : Prop where
  full : ∀ rest, f ⟨B ++ rest, 0⟩ = (v, ⟨rest, 0⟩)
  cut : ∀ k rest, k < B.length → (f ⟨(B ++ rest).take k, 0⟩).2.err = 61
  sticky : ∀ r : Rd, r.err ≠ 0 → (f r).2 = r
def Sticky {α : Type} (f : Rd → α × Rd) : Prop := ∀ r : Rd, r.err ≠ 0 → (f r).2 = r
theorem Steps.pure {α : Type} (v : α) : Steps (fun r => (v, r)) [] v := ⟨fun _ => rfl, fun k _ h => by simp at h, fun _ _ => rfl⟩
theorem Steps.bind {α β : Type} {f : Rd → α × Rd} {B : List Int} {v : α} {g : α → Rd → β × Rd} {C : List Int} {u : β} (h : Steps f B v) (hg : Steps (g v) C u) (hs : ∀ x, Sticky (g x)) : Steps (fun r => g (f r).1 (f r).2) (B ++ C) u := by
  refine ⟨fun rest => ?_, fun k rest hk => ?_, fun r hr => ?_⟩
  · rw [List.append_assoc, h.full]; exact hg.full rest
  · rw [List.append_assoc]
    by_cases hb : k < B.length
    · have h1 := h.cut k (C ++ rest) hb
      have h2 := hs (f ⟨(B ++ (C ++ rest)).take k, 0⟩).1 (f ⟨(B ++ (C ++ rest)).take k, 0⟩).2 (by rw [h1]; decide)
      show (g (f ⟨(B ++ (C ++ rest)).take k, 0⟩).1 (f ⟨(B ++ (C ++ rest)).take k, 0⟩).2).2.err = 61
      rw [h2]; exact h1
    · obtain ⟨m, rfl⟩ : ∃ m, k = B.length + m := ⟨k - B.length, by omega⟩
      rw [take_over, h.full]
      exact hg.cut m rest (by rw [List.length_append] at hk; omega)
  · have h1 := h.sticky r hr
    show (g (f r).1 (f r).2).2 = r
    rw [h1]; exact hs _ r hr
theorem Steps.fixed (n k : Nat) (h8 : k ≤ 8) (hn : n < 256 ^ k) : Steps (fun r => r.fixed (k : Int)) (dig n k) n := by
  have hw : Rd.within (k : Int) = k := by unfold Rd.within; omega
  refine ⟨fun rest => ?_, fun j rest hj => ?_, fun r hr => by show (r.fixed k).2 = r; rw [sticky_fixed r k hr]⟩
  · show Rd.fixed ⟨dig n k ++ rest, 0⟩ k = _
    rw [fixed_append (dig n k) rest k (by rw [dig_length]) (by omega), num_dig, Nat.mod_eq_of_lt hn]
  · show (Rd.fixed _ k).2.err = 61
    rw [dig_length] at hj
    rw [Rd.fixed, hw, raw_short _ k (by simp; omega)]
theorem Steps.count (n m : Nat) (hn : n < 18446744073709551616) (hm : n ≤ m) : Steps (fun r => r.count m) (cnt n) n := by
  refine ⟨fun rest => count_append n m rest hn hm, fun k rest hk => ?_, fun r hr => sticky_count r m hr⟩
  show (Rd.count _ m).2.err = 61
  simp [Rd.count, peek_cut n m k rest hk]
theorem Steps.text (x : List Int) (M : Int) (hx : (x.length : Int) ≤ M) (hM : M < 9223372036854775808) : Steps (fun r => r.text M) (txt x) x :=
  ⟨fun rest => text_app x rest M hx hM, fun k rest hk => text_cut2 x rest k M hk hx hM, fun r hr => Go.Proofs.Ytbpmcnfmgaolnaa.sticky r M hr⟩
theorem raw_sticky (n : Int) : Sticky (fun r => r.raw n) := fun r hr => by simp [Rd.raw, hr]
theorem fixed_sticky (n : Int) : Sticky (fun r => r.fixed n) := fun r hr => by show (r.fixed n).2 = r; rw [sticky_fixed r n hr]
theorem ref_sticky : Sticky Rd.ref := fun r hr => by
  have h1 : (r.raw 32).2 = r := raw_sticky 32 r hr
  have h2 : (r.fixed 4).2 = r := fixed_sticky 4 r hr
  unfold Rd.ref
  rw [h1, h2, if_pos hr]
theorem out_sticky : Sticky Rd.out := fun r hr => by
  have h1 : (r.fixed 8).2 = r := fixed_sticky 8 r hr
  have h2 : (r.text 2000).2 = r := Go.Proofs.Ytbpmcnfmgaolnaa.sticky r 2000 hr
  unfold Rd.out
  rw [h1, h2, if_pos hr]
theorem inn_sticky : Sticky Rd.inn := fun r hr => by
  have h1 : r.ref.2 = r := ref_sticky r hr
  have h2 : (r.text 2000).2 = r := Go.Proofs.Ytbpmcnfmgaolnaa.sticky r 2000 hr
  have h3 : (r.fixed 4).2 = r := fixed_sticky 4 r hr
  simp only [Rd.inn, h1, h2, h3]
theorem rep_sticky {α : Type} {f : Rd → α × Rd} (h : Sticky f) : ∀ n, Sticky (Rd.rep f n)
  | 0, _, _ => rfl
  | n + 1, r, hr => by
    have h1 := rep_sticky h n r hr
    simp only [Rd.rep, h1]
    exact h r hr
theorem Steps.ref (d : RefD) (hf : d.Fine) : Steps Rd.ref d.bytes d := by
  refine ⟨fun rest => ref_back d hf rest, fun k rest hk => ?_, ref_sticky⟩
  have hl := hf.len
  have key : ∀ r : Rd, ((r.raw 32).2.fixed 4).2.err = 61 → (r.ref).2.err = 61 := fun r h => by
    unfold Rd.ref
    rw [if_pos (by rw [h]; decide)]
    exact h
  apply key
  rw [RefD.bytes, List.append_assoc]
  rw [RefD.bytes, List.length_append, dig_length] at hk
  by_cases h1 : k < 32
  · rw [raw_short _ 32 (by simp; omega)]
    have := fixed_sticky 4 ⟨(d.id ++ (dig d.at_.toNat 4 ++ rest)).take k, 61⟩ (by show (61 : Int) ≠ 0; decide)
    simp only at this ⊢
    rw [this]
  · obtain ⟨m, rfl⟩ : ∃ m, k = d.id.length + m := ⟨k - d.id.length, by omega⟩
    rw [take_over]
    have h2 := raw_append d.id ((dig d.at_.toNat 4 ++ rest).take m)
    rw [hl] at h2
    have h2' : Rd.raw ⟨d.id ++ (dig d.at_.toNat 4 ++ rest).take m, 0⟩ 32 = (d.id, ⟨(dig d.at_.toNat 4 ++ rest).take m, 0⟩) := h2
    rw [h2']
    exact (Steps.fixed d.at_.toNat 4 (by decide) (by have h3 := hf.at1; have h4 := hf.at0; have : (256 : Nat) ^ 4 = 4294967296 := by decide
                                                     omega)).cut m rest (by rw [dig_length]; omega)
theorem Steps.out (d : OutD) (h0 : -9223372036854775808 ≤ d.value) (h1 : d.value ≤ 9223372036854775807) (hl : d.lock.length ≤ 2000) : Steps Rd.out d.bytes d := by
  refine ⟨fun rest => out_back d rest h0 h1 hl, fun k rest hk => ?_, out_sticky⟩
  have key : ∀ r : Rd, ((r.fixed 8).2.text 2000).2.err = 61 → (r.out).2.err = 61 := fun r h => by
    unfold Rd.out
    rw [if_pos (by rw [h]; decide)]
    exact h
  apply key
  have hb := Steps.bind (Steps.fixed (u64 d.value).toNat 8 (by decide) (by exact u64_nat d.value)) (g := fun _ r => r.text 2000) (Steps.text d.lock 2000 (by omega) (by decide)) (fun _ r hr => Go.Proofs.Ytbpmcnfmgaolnaa.sticky r 2000 hr)
  exact hb.cut k rest hk
def InD.Ok (a : InD) : Prop := a.ref.Fine ∧ a.unlock.length ≤ 2000 ∧ 0 ≤ a.order ∧ a.order ≤ 4294967295
def OutD.Ok (a : OutD) : Prop := -9223372036854775808 ≤ a.value ∧ a.value ≤ 9223372036854775807 ∧ a.lock.length ≤ 2000
structure TxD.Ok (t : TxD) : Prop where
  version : 0 ≤ t.version ∧ t.version ≤ 4294967295
  until_ : 0 ≤ t.until_ ∧ t.until_ ≤ 4294967295
  ins : ∀ a ∈ t.ins, a.Ok
  outs : ∀ a ∈ t.outs, a.Ok
  insN : t.ins.length ≤ 200
  outsN : t.outs.length ≤ 200
theorem p4 : (256 : Nat) ^ 4 = 4294967296 := by decide
theorem Steps.inn (d : InD) (h : d.Ok) : Steps Rd.inn d.bytes d := by
  obtain ⟨hf, hl, ho0, ho1⟩ := h
  have hb := Steps.bind (Steps.ref d.ref hf) (g := fun a r => ((⟨a, ((r.text 2000).1), ((((r.text 2000).2.fixed 4).1 : Nat) : Int)⟩ : InD), ((r.text 2000).2.fixed 4).2)) (C := txt d.unlock ++ dig d.order.toNat 4) (u := d)
    (Steps.bind (Steps.text d.unlock 2000 (by omega) (by decide)) (g := fun b r => ((⟨d.ref, b, (((r.fixed 4).1 : Nat) : Int)⟩ : InD), (r.fixed 4).2)) (C := dig d.order.toNat 4) (u := d)
      (by
        have h4 := Steps.fixed d.order.toNat 4 (by decide) (by rw [p4]; omega)
        refine ⟨fun rest => ?_, fun k rest hk => h4.cut k rest hk, fun r hr => fixed_sticky 4 r hr⟩
        have h5 := h4.full rest
        have h5' : Rd.fixed ⟨dig d.order.toNat 4 ++ rest, 0⟩ 4 = (d.order.toNat, ⟨rest, 0⟩) := h5
        rw [h5']
        have e : (d.order.toNat : Int) = d.order := by omega
        simp only [e])
      (fun _ r hr => fixed_sticky 4 r hr))
    (fun _ r hr => by
      have h2 : (r.text 2000).2 = r := Go.Proofs.Ytbpmcnfmgaolnaa.sticky r 2000 hr
      show ((r.text 2000).2.fixed 4).2 = r
      rw [h2]; exact fixed_sticky 4 r hr)
  have e : d.bytes = d.ref.bytes ++ (txt d.unlock ++ dig d.order.toNat 4) := by rw [InD.bytes, List.append_assoc]
  rw [e]
  exact hb
theorem Steps.snoc {α : Type} {f : Rd → α × Rd} {enc : α → List Int} (hs : Sticky f) : ∀ (n : Nat) (xs : List α), xs.length = n → (∀ a ∈ xs, Steps f (enc a) a) → Steps (Rd.rep f n) (xs.flatMap enc) xs
  | 0, xs, hn, _ => by
    obtain rfl : xs = [] := List.eq_nil_of_length_eq_zero hn
    exact Steps.pure []
  | n + 1, xs, hn, h => by
    obtain ⟨ys, y, rfl⟩ : ∃ ys y, xs = ys ++ [y] := ⟨xs.dropLast, xs.getLast (by intro hc; subst hc; simp at hn), (List.dropLast_concat_getLast _).symm⟩
    have ih := Steps.snoc hs n ys (by simp at hn; exact hn) (fun a ha => h a (by simp [ha]))
    have hy := h y (by simp)
    have hb := Steps.bind ih (g := fun l r => (l ++ [(f r).1], (f r).2)) (C := enc y) (u := ys ++ [y])
      ⟨fun rest => by rw [hy.full], fun k rest hk => hy.cut k rest hk, fun r hr => hs r hr⟩ (fun _ r hr => hs r hr)
    rw [List.flatMap_append, List.flatMap_singleton]
    exact hb
theorem Steps.txRaw (t : TxD) (h : t.Ok) : Steps Rd.txRaw t.bytes t := by
  have hv := Steps.fixed t.version.toNat 4 (by decide) (by rw [p4]; have := h.version; omega)
  have hu := Steps.fixed t.until_.toNat 4 (by decide) (by rw [p4]; have := h.until_; omega)
  have hi := Steps.count t.ins.length 200 (by have := h.insN; omega) h.insN
  have ho := Steps.count t.outs.length 200 (by have := h.outsN; omega) h.outsN
  have hI := Steps.snoc inn_sticky t.ins.length t.ins rfl (fun a ha => Steps.inn a (h.ins a ha))
  have hO := Steps.snoc out_sticky t.outs.length t.outs rfl (fun a ha => Steps.out a (h.outs a ha).1 (h.outs a ha).2.1 (h.outs a ha).2.2)
  have u6 : ∀ (v : Nat) (is : List InD) (os : List OutD), Sticky (fun r : Rd => ((⟨(v : Int), is, os, ((r.fixed 4).1 : Int)⟩ : TxD), (r.fixed 4).2)) := fun _ _ _ r hr => fixed_sticky 4 r hr
  have b6 : Steps (fun r : Rd => ((⟨(t.version.toNat : Int), t.ins, t.outs, ((r.fixed 4).1 : Int)⟩ : TxD), (r.fixed 4).2)) (dig t.until_.toNat 4) t := by
    refine ⟨fun rest => ?_, fun k rest hk => hu.cut k rest hk, u6 _ _ _⟩
    have h5 : Rd.fixed ⟨dig t.until_.toNat 4 ++ rest, 0⟩ 4 = (t.until_.toNat, ⟨rest, 0⟩) := hu.full rest
    rw [h5]
    have e1 : (t.until_.toNat : Int) = t.until_ := by have := h.until_; omega
    have e2 : (t.version.toNat : Int) = t.version := by have := h.version; omega
    simp only [e1, e2]
  have b5 := Steps.bind hO (g := fun os r => ((⟨(t.version.toNat : Int), t.ins, os, ((r.fixed 4).1 : Int)⟩ : TxD), (r.fixed 4).2)) b6 (fun _ => u6 _ _ _)
  have u5 : ∀ (v : Nat) (is : List InD) (m : Nat), Sticky (fun r : Rd => ((⟨(v : Int), is, (Rd.rep Rd.out m r).1, ((((Rd.rep Rd.out m r).2.fixed 4).1 : Nat) : Int)⟩ : TxD), ((Rd.rep Rd.out m r).2.fixed 4).2)) := fun _ _ m r hr => by
    have h1 := rep_sticky out_sticky m r hr
    simp only [h1]; exact fixed_sticky 4 r hr
  have b4 := Steps.bind ho (g := fun m r => ((⟨(t.version.toNat : Int), t.ins, (Rd.rep Rd.out m r).1, ((((Rd.rep Rd.out m r).2.fixed 4).1 : Nat) : Int)⟩ : TxD), ((Rd.rep Rd.out m r).2.fixed 4).2)) b5 (fun _ => u5 _ _ _)
  have u4 : ∀ (v : Nat) (is : List InD), Sticky (fun r : Rd => ((⟨(v : Int), is, (Rd.rep Rd.out (r.count 200).1 (r.count 200).2).1, ((((Rd.rep Rd.out (r.count 200).1 (r.count 200).2).2.fixed 4).1 : Nat) : Int)⟩ : TxD), ((Rd.rep Rd.out (r.count 200).1 (r.count 200).2).2.fixed 4).2)) := fun v is r hr => by
    have h1 : (r.count 200).2 = r := sticky_count r 200 hr
    have h2 := u5 v is (r.count 200).1 r hr
    rw [← h1] at h2
    simp only [h1] at h2 ⊢
    exact h2
  have b3 := Steps.bind hI (g := fun is r => ((⟨(t.version.toNat : Int), is, (Rd.rep Rd.out (r.count 200).1 (r.count 200).2).1, ((((Rd.rep Rd.out (r.count 200).1 (r.count 200).2).2.fixed 4).1 : Nat) : Int)⟩ : TxD), ((Rd.rep Rd.out (r.count 200).1 (r.count 200).2).2.fixed 4).2)) b4 (fun _ => u4 _ _)
  have u3 : ∀ (v : Nat) (n : Nat), Sticky (fun r : Rd => ((⟨(v : Int), (Rd.rep Rd.inn n r).1, (Rd.rep Rd.out ((Rd.rep Rd.inn n r).2.count 200).1 ((Rd.rep Rd.inn n r).2.count 200).2).1, ((((Rd.rep Rd.out ((Rd.rep Rd.inn n r).2.count 200).1 ((Rd.rep Rd.inn n r).2.count 200).2).2.fixed 4).1 : Nat) : Int)⟩ : TxD), ((Rd.rep Rd.out ((Rd.rep Rd.inn n r).2.count 200).1 ((Rd.rep Rd.inn n r).2.count 200).2).2.fixed 4).2)) := fun v n r hr => by
    have h1 := rep_sticky inn_sticky n r hr
    simp only [h1]
    exact u4 v [] r hr
  have b2 := Steps.bind hi (g := fun n r => ((⟨(t.version.toNat : Int), (Rd.rep Rd.inn n r).1, (Rd.rep Rd.out ((Rd.rep Rd.inn n r).2.count 200).1 ((Rd.rep Rd.inn n r).2.count 200).2).1, ((((Rd.rep Rd.out ((Rd.rep Rd.inn n r).2.count 200).1 ((Rd.rep Rd.inn n r).2.count 200).2).2.fixed 4).1 : Nat) : Int)⟩ : TxD), ((Rd.rep Rd.out ((Rd.rep Rd.inn n r).2.count 200).1 ((Rd.rep Rd.inn n r).2.count 200).2).2.fixed 4).2)) b3 (fun _ => u3 _ _)
  have b1 := Steps.bind hv (g := fun (v : Nat) r => ((⟨(v : Int), (Rd.rep Rd.inn (r.count 200).1 (r.count 200).2).1, (Rd.rep Rd.out ((Rd.rep Rd.inn (r.count 200).1 (r.count 200).2).2.count 200).1 ((Rd.rep Rd.inn (r.count 200).1 (r.count 200).2).2.count 200).2).1, ((((Rd.rep Rd.out ((Rd.rep Rd.inn (r.count 200).1 (r.count 200).2).2.count 200).1 ((Rd.rep Rd.inn (r.count 200).1 (r.count 200).2).2.count 200).2).2.fixed 4).1 : Nat) : Int)⟩ : TxD), ((Rd.rep Rd.out ((Rd.rep Rd.inn (r.count 200).1 (r.count 200).2).2.count 200).1 ((Rd.rep Rd.inn (r.count 200).1 (r.count 200).2).2.count 200).2).2.fixed 4).2)) b2 (fun v r hr => by
      have h1 : (r.count 200).2 = r := sticky_count r 200 hr
      have h2 := u3 v (r.count 200).1 r hr
      simp only [h1] at h2 ⊢
      exact h2)
  have e : t.bytes = dig t.version.toNat 4 ++ (cnt t.ins.length ++ (t.ins.flatMap InD.bytes ++ (cnt t.outs.length ++ (t.outs.flatMap OutD.bytes ++ dig t.until_.toNat 4)))) := by
    simp only [TxD.bytes, List.append_assoc]
  rw [e]
  exact b1
/-- What was written is read, whatever stands behind it. -/
theorem tx_back (t : TxD) (h : t.Ok) (rest : List Int) : Rd.tx ⟨t.bytes ++ rest, 0⟩ = (t, ⟨rest, 0⟩) := by
  unfold Rd.tx
  rw [(Steps.txRaw t h).full rest]
  simp
theorem parseT_back (t : TxD) (h : t.Ok) : parseT t.bytes = (t, 0) := by
  have h1 := tx_back t h []
  rw [List.append_nil] at h1
  rw [parseT_eq _ _ _ h1]
  simp
/-- Cut off anywhere it is too short. -/
theorem parseT_cut (t : TxD) (h : t.Ok) (k : Nat) (hk : k < t.bytes.length) : parseT (t.bytes.take k) = (zeroT, 61) := by
  have h1 := (Steps.txRaw t h).cut k [] hk
  rw [List.append_nil] at h1
  obtain ⟨d, r, hr⟩ : ∃ d r, Rd.txRaw ⟨t.bytes.take k, 0⟩ = (d, r) := ⟨_, _, rfl⟩
  rw [hr] at h1
  have h1' : r.err = 61 := h1
  have h2 : Rd.tx ⟨t.bytes.take k, 0⟩ = (zeroT, r) := by
    unfold Rd.tx
    rw [hr]
    exact if_pos (by rw [h1']; decide)
  rw [parseT_eq _ _ _ h2, h1', if_pos (by decide)]
theorem sameL_refl {α : Type} {f : α → α → Bool} (h : ∀ a, f a a = true) : ∀ l : List α, sameL f l l = true := by
  intro l
  induction l with
  | nil => rfl
  | cons a l ih => simp_all [sameL]
theorem InD.same_refl (a : InD) : a.same a = true := by simp [InD.same]
theorem OutD.same_refl (a : OutD) : a.same a = true := by simp [OutD.same]
theorem TxD.same_refl (a : TxD) : a.same a = true := by
  simp only [TxD.same, sameL_refl InD.same_refl, sameL_refl OutD.same_refl, Bool.and_true, decide_true]
theorem TxV.ok {w : World} {t : TxV} (h : t.Fine w) (hi : t.iN ≤ 200) (ho : t.oN ≤ 200) (hu : ∀ a ∈ t.ins, a.n ≤ 2000) (hl : ∀ a ∈ t.outs, a.n ≤ 2000) : t.d.Ok := by
  refine ⟨h.version, h.until_, fun a ha => ?_, fun a ha => ?_, ?_, ?_⟩
  · obtain ⟨x, hx, rfl⟩ := List.mem_map.1 ha
    have f := h.ins.2.1 x hx
    exact ⟨f.ref, by have h1 := f.bys.1; have h2 := hu x hx; show x.bs.length ≤ 2000; omega, f.order.1, f.order.2⟩
  · obtain ⟨x, hx, rfl⟩ := List.mem_map.1 ha
    have f := h.outs.2.1 x hx
    exact ⟨f.v.1, f.v.2, by have h1 := f.bys.1; have h2 := hl x hx; show x.bs.length ≤ 2000; omega⟩
  · show (t.ins.map InV.d).length ≤ 200
    rw [List.length_map]; have := h.ins.1; omega
  · show (t.outs.map OutV.d).length ≤ 200
    rw [List.length_map]; have := h.outs.1; omega
end Go.Proofs.Ytbpmcnfmgaolnaa
