import Derived.Test.YtbpmcnfmgaolnaaPk16
import Derived.Test.YtbpmcnfmgaolnaaPk12
import Derived.Test.YtbpmcnfmgaolnaaPk4
import Derived.Test.YtbpmcnfmgaolnaaPk17
/-
  A block's bytes: read back; and what was read is written so again. Plain laws.
-/
namespace Go.Proofs.Ytbpmcnfmgaolnaa
open Go.RowKit

theorem Steps.tx (t : TxD) (h : t.Ok) : Steps Rd.tx t.bytes t := by
  have hr := Steps.txRaw t h
  refine ⟨tx_back t h, fun k rest hk => ?_, fun r hr0 => ?_⟩
  · have := hr.cut k rest hk
    unfold Rd.tx
    split
    · exact this
    · exact this
  · have := hr.sticky r hr0
    unfold Rd.tx
    rw [this, if_pos hr0]
theorem tx_sticky : Sticky Rd.tx := fun r hr => by
  have h0 : (zeroT).Ok := ⟨by decide, by decide, by simp [zeroT], by simp [zeroT], by simp [zeroT], by simp [zeroT]⟩
  exact (Steps.tx zeroT h0).sticky r hr
theorem fixed4_full (n : Int) (h0 : 0 ≤ n ∧ n ≤ 4294967295) (X : List Int) : Rd.fixed ⟨dig n.toNat 4 ++ X, 0⟩ 4 = (n.toNat, ⟨X, 0⟩) :=
  (Steps.fixed n.toNat 4 (by decide) (by rw [p4]; omega)).full X
theorem raw32_full (x X : List Int) (h : x.length = 32) : Rd.raw ⟨x ++ X, 0⟩ 32 = (x, ⟨X, 0⟩) := by
  have := raw_append x X
  rw [h] at this
  exact this
theorem head_full (h : HeadD) (hf : h.Fine) (rest : List Int) : Rd.head ⟨h.bytes ++ rest, 0⟩ = (h, ⟨rest, 0⟩) := by
  have e : h.bytes ++ rest = dig h.version.toNat 4 ++ (h.prev ++ (h.root ++ (dig h.time.toNat 4 ++ (dig h.bits.toNat 4 ++ (dig h.nonce.toNat 4 ++ rest))))) := by simp only [HeadD.bytes, List.append_assoc]
  have hr : Rd.headRaw ⟨h.bytes ++ rest, 0⟩ = (h, ⟨rest, 0⟩) := by
    rw [e]
    simp only [Rd.headRaw, fixed4_full _ hf.version, raw32_full _ _ hf.plen, raw32_full _ _ hf.rlen, fixed4_full _ hf.time, fixed4_full _ hf.bits, fixed4_full _ hf.nonce]
    have e1 : (h.version.toNat : Int) = h.version := by have := hf.version; omega
    have e2 : (h.time.toNat : Int) = h.time := by have := hf.time; omega
    have e3 : (h.bits.toNat : Int) = h.bits := by have := hf.bits; omega
    have e4 : (h.nonce.toNat : Int) = h.nonce := by have := hf.nonce; omega
    rw [e1, e2, e3, e4]
  unfold Rd.head
  rw [hr]
  simp
structure BlkD.Ok (b : BlkD) : Prop where
  head : b.head.Fine
  n : b.txs.length ≤ 100
  txs : ∀ t ∈ b.txs, t.Ok
theorem blk_full (b : BlkD) (h : b.Ok) (rest : List Int) : Rd.blk ⟨b.bytes ++ rest, 0⟩ = (b, ⟨rest, 0⟩) := by
  have hc := (Steps.count b.txs.length 100 (by have := h.n; omega) h.n).full
  have ht := (Steps.snoc tx_sticky b.txs.length b.txs rfl (fun t ht => Steps.tx t (h.txs t ht))).full
  have e : b.bytes ++ rest = b.head.bytes ++ (cnt b.txs.length ++ (b.txs.flatMap TxD.bytes ++ rest)) := by simp only [BlkD.bytes, List.append_assoc]
  have hc' : Rd.count ⟨cnt b.txs.length ++ (b.txs.flatMap TxD.bytes ++ rest), 0⟩ 100 = (b.txs.length, ⟨b.txs.flatMap TxD.bytes ++ rest, 0⟩) := hc _
  rw [e]
  simp only [Rd.blk, head_full _ h.head, hc', ht]
theorem parseB_back (b : BlkD) (h : b.Ok) : parseB b.bytes = (b, 0) := by
  have h1 := blk_full b h []
  rw [List.append_nil] at h1
  unfold parseB
  rw [h1]
  simp
theorem parseH_back (h : HeadD) (hf : h.Fine) : parseH h.bytes = (h, 0) := by
  have h1 := head_full h hf []
  rw [List.append_nil] at h1
  unfold parseH
  rw [HeadD.bytes_len hf, h1]
  rfl
/-! ### What was read, written -/
/-- What was read, if nothing was wrong, is what is written of it. -/
def Writes {α : Type} (f : Rd → α × Rd) (enc : α → List Int) : Prop := ∀ r : Rd, Byt r.rest → (f r).2.err = 0 → r.err = 0 ∧ r.rest = enc (f r).1 ++ (f r).2.rest
theorem byt_tail {a b : List Int} (h : Byt (a ++ b)) : Byt b := fun x hx => h x (List.mem_append_right _ hx)
theorem Writes.tail {α : Type} {f : Rd → α × Rd} {enc : α → List Int} (h : Writes f enc) {r : Rd} (hb : Byt r.rest) (he : (f r).2.err = 0) : Byt (f r).2.rest := by
  have h1 := (h r hb he).2
  rw [h1] at hb
  exact byt_tail hb
theorem writes_fixed (k : Nat) (h1 : 1 ≤ k) (h8 : k ≤ 8) : Writes (fun r => r.fixed (k : Int)) (fun n => dig n k) := by
  intro r hb he
  have hw : Rd.within (k : Int) = k := by unfold Rd.within; omega
  have e : (r.fixed (k : Int)).2 = (r.raw k).2 := by rw [Rd.fixed, hw]
  have e1 : (r.fixed (k : Int)).1 = num (r.raw k).1 := by rw [Rd.fixed, hw]
  have he' : (r.raw k).2.err = 0 := by rw [← e]; exact he
  have h0 := raw_ok r k he'
  have hl := raw_full r k (by omega) he'
  show r.err = 0 ∧ r.rest = dig (r.fixed (k : Int)).1 k ++ (r.fixed (k : Int)).2.rest
  refine ⟨h0, ?_⟩
  rw [e, e1]
  unfold Rd.raw at hl he' ⊢
  rw [if_neg (by rintro (h | h); exact h h0; omega)] at hl he' ⊢
  split at he'
  · simp at he'
  · rename_i hs
    rw [if_neg hs] at hl ⊢
    simp only [Int.toNat_natCast] at hl ⊢
    have hd := dig_num (r.rest.take k) (fun x hx => hb x (List.mem_of_mem_take hx))
    rw [hl] at hd
    rw [hd, List.take_append_drop]
theorem writes_raw (k : Nat) (h1 : 1 ≤ k) : Writes (fun r => r.raw (k : Int)) (fun x => x) := by
  intro r hb he
  have he' : (r.raw k).2.err = 0 := he
  have h0 := raw_ok r k he'
  show r.err = 0 ∧ r.rest = (r.raw k).1 ++ (r.raw k).2.rest
  refine ⟨h0, ?_⟩
  unfold Rd.raw at he' ⊢
  rw [if_neg (by rintro (h | h); exact h h0; omega)] at he' ⊢
  split at he'
  · simp at he'
  · rename_i hs
    rw [if_neg hs]
    exact (List.take_append_drop _ _).symm
theorem writes_count (m : Nat) : Writes (fun r => r.count m) cnt := by
  intro r hb he
  have he' : (r.count m).2.err = 0 := he
  show r.err = 0 ∧ r.rest = cnt (r.count m).1 ++ (r.count m).2.rest
  unfold Rd.count at he' ⊢
  split at he'
  · rename_i h; exact absurd he' h
  · rename_i h
    have h0 : r.err = 0 := Classical.not_not.1 h
    rw [if_neg h]
    refine ⟨h0, ?_⟩
    obtain ⟨N, U, X, hp⟩ : ∃ N U X, Rd.peek r.rest m = (N, U, X) := ⟨_, _, _, rfl⟩
    rw [hp] at he' ⊢
    simp only at he' ⊢
    subst he'
    rw [(peek_back r.rest m hb N U hp).1, List.take_append_drop]
theorem writes_text (M : Int) (_hM0 : 0 ≤ M) (_hM : M < 9223372036854775808) : Writes (fun r => r.text M) txt := by
  intro r hb he
  have he' : (r.text M).2.err = 0 := he
  show r.err = 0 ∧ r.rest = txt (r.text M).1 ++ (r.text M).2.rest
  by_cases h : r.err ≠ 0
  · unfold Rd.text at he'; rw [if_pos h] at he'; exact absurd he' h
  · have h0 : r.err = 0 := Classical.not_not.1 h
    refine ⟨h0, ?_⟩
    obtain ⟨N, U, X, hp⟩ : ∃ N U X, Rd.peek r.rest (max M 0).toNat = (N, U, X) := ⟨_, _, _, rfl⟩
    unfold Rd.text at he' ⊢
    rw [if_neg h, hp] at he' ⊢
    simp only at he' ⊢
    split at he'
    · rename_i hx; exact absurd he' hx
    · rename_i hx
      obtain rfl : X = 0 := Classical.not_not.1 hx
      rw [if_neg hx]
      split at he'
      · simp at he'
      · rename_i hl
        rw [if_neg hl]
        obtain ⟨h1, h2, _⟩ := peek_back r.rest _ hb N U hp
        have h3 : ((r.rest.drop U).take N).length = N := by simp; omega
        simp only [txt, h3, h1]
        rw [List.append_assoc, List.take_append_drop, List.take_append_drop]
theorem i64_toNat (F : Nat) (h : F < 18446744073709551616) : (u64 (i64 F)).toNat = F := by rw [i64_back F h]; omega
theorem writes_ref : Writes Rd.ref RefD.bytes := by
  intro r hb he
  have hE : ((r.raw 32).2.fixed 4).2.err = 0 := by
    unfold Rd.ref at he
    split at he
    · rename_i h; exact he
    · exact he
  have e : r.ref = (⟨(r.raw 32).1, ((r.raw 32).2.fixed 4).1⟩, ((r.raw 32).2.fixed 4).2) := by unfold Rd.ref; rw [if_neg (by rw [hE]; decide)]
  have hr32 : Writes (fun r => r.raw 32) (fun x => x) := writes_raw 32 (by decide)
  have hf4 : Writes (fun r => r.fixed 4) (fun n => dig n 4) := writes_fixed 4 (by decide) (by decide)
  have h0 : (r.raw 32).2.err = 0 := by
    apply Classical.byContradiction
    intro hc
    have := fixed_sticky 4 (r.raw 32).2 hc
    have h9 : ((r.raw 32).2.fixed 4).2 = (r.raw 32).2 := this
    rw [h9] at hE; exact hc hE
  have w1 := hr32 r hb h0
  have w2 := hf4 (r.raw 32).2 (hr32.tail hb h0) hE
  rw [e]
  refine ⟨w1.1, ?_⟩
  show r.rest = ((r.raw 32).1 ++ dig ((((r.raw 32).2.fixed 4).1 : Nat) : Int).toNat 4) ++ ((r.raw 32).2.fixed 4).2.rest
  rw [Int.toNat_natCast, List.append_assoc, ← w2.2]
  exact w1.2
theorem fixed8_lt (r : Rd) (hb : Byt r.rest) : (r.fixed 8).1 < 18446744073709551616 := by
  obtain ⟨x, hx⟩ : ∃ x, x = (r.raw 8).1 := ⟨_, rfl⟩
  have hle : x.length ≤ 8 := by rw [hx]; exact raw_length r 8 8 (by decide)
  have hby : Byt x := by
    rw [hx]
    unfold Rd.raw
    split
    · intro x hx; cases hx
    · split
      · intro x hx; cases hx
      · exact fun x hx => hb x (List.mem_of_mem_take hx)
  have hlt := num_lt x hby
  have hp : (256 : Nat) ^ x.length ≤ 256 ^ 8 := Nat.pow_le_pow_right (by decide) hle
  have h8 : (256 : Nat) ^ 8 = 18446744073709551616 := by decide
  have e : (r.fixed 8).1 = num x := by rw [hx]; rfl
  rw [e]
  exact Nat.lt_of_lt_of_le hlt (h8 ▸ hp)
theorem Sticky.up {α : Type} {f : Rd → α × Rd} (hs : Sticky f) {a b : Rd} {v : α} (hf : f a = (v, b)) (hb0 : b.err = 0) : a.err = 0 := by
  apply Classical.byContradiction
  intro hc
  have := hs a hc
  rw [hf] at this
  have h9 : b = a := this
  rw [h9] at hb0; exact hc hb0
theorem Writes.st {α : Type} {f : Rd → α × Rd} {enc : α → List Int} (hw : Writes f enc) {a b : Rd} {v : α} (hf : f a = (v, b)) (hb0 : b.err = 0) (hby : Byt a.rest) : a.err = 0 ∧ a.rest = enc v ++ b.rest ∧ Byt b.rest := by
  have hh := hw a hby (by rw [hf]; exact hb0)
  rw [hf] at hh
  refine ⟨hh.1, hh.2, ?_⟩
  rw [hh.2] at hby
  exact byt_tail hby
theorem writes_out : Writes Rd.out OutD.bytes := by
  intro r hb he
  have hf8 : Writes (fun r => r.fixed 8) (fun n => dig n 8) := writes_fixed 8 (by decide) (by decide)
  have ht := writes_text 2000 (by decide) (by decide)
  have hn := fixed8_lt r hb
  obtain ⟨F, r1, h1⟩ : ∃ F r1, r.fixed 8 = (F, r1) := ⟨_, _, rfl⟩
  obtain ⟨T, r2, h2⟩ : ∃ T r2, r1.text 2000 = (T, r2) := ⟨_, _, rfl⟩
  rw [h1] at hn
  have hn' : F < 18446744073709551616 := hn
  have e0 := out_eq r F r1 T r2 h1 h2
  have e2 : r2.err = 0 := by
    rw [e0] at he
    split at he
    · exact he
    · exact he
  rw [if_neg (by rw [e2]; decide)] at e0
  rw [e0] at he ⊢
  have e1 : r1.err = 0 := Sticky.up (f := fun r => r.text 2000) (fun r hr => Go.Proofs.Ytbpmcnfmgaolnaa.sticky r 2000 hr) h2 e2
  have w1 := Writes.st hf8 h1 e1 hb
  have w2 := Writes.st ht h2 e2 w1.2.2
  refine ⟨w1.1, ?_⟩
  obtain ⟨I, hI⟩ : ∃ I : Int, I = i64 F := ⟨_, rfl⟩
  have hI2 : (u64 I).toNat = F := by rw [hI]; exact i64_toNat F hn'
  rw [← hI]
  show r.rest = (dig (u64 I).toNat 8 ++ txt T) ++ r2.rest
  rw [hI2, List.append_assoc, ← w2.2.1]
  exact w1.2.1
/-- Two, one behind the other. -/
theorem Writes.two {α β : Type} {f : Rd → α × Rd} {ef : α → List Int} {g : Rd → β × Rd} {eg : β → List Int} (hf : Writes f ef) (hg : Writes g eg) (hs : Sticky g) {r : Rd} (hb : Byt r.rest) (he : (g (f r).2).2.err = 0) :
    r.err = 0 ∧ (f r).2.err = 0 ∧ Byt (f r).2.rest ∧ r.rest = ef (f r).1 ++ (eg (g (f r).2).1 ++ (g (f r).2).2.rest) := by
  have h0 : (f r).2.err = 0 := by
    apply Classical.byContradiction
    intro hc
    rw [hs _ hc] at he; exact hc he
  have w1 := hf r hb h0
  have hb1 := hf.tail hb h0
  have w2 := hg (f r).2 hb1 he
  exact ⟨w1.1, h0, hb1, by rw [← w2.2]; exact w1.2⟩
theorem writes_inn : Writes Rd.inn InD.bytes := by
  intro r hb he
  have ht := writes_text 2000 (by decide) (by decide)
  have hf4 : Writes (fun r => r.fixed 4) (fun n => dig n 4) := writes_fixed 4 (by decide) (by decide)
  obtain ⟨d, r1, h1⟩ : ∃ d r1, r.ref = (d, r1) := ⟨_, _, rfl⟩
  obtain ⟨x, r2, h2⟩ : ∃ x r2, r1.text 2000 = (x, r2) := ⟨_, _, rfl⟩
  obtain ⟨U, r3, h3⟩ : ∃ U r3, r2.fixed 4 = (U, r3) := ⟨_, _, rfl⟩
  have e : r.inn = (⟨d, x, (U : Int)⟩, r3) := by simp only [Rd.inn, h1, h2, h3]
  rw [e] at he ⊢
  have e3 : r3.err = 0 := he
  have e2 : r2.err = 0 := Sticky.up (fixed_sticky 4) h3 e3
  have e1 : r1.err = 0 := Sticky.up (f := fun r => r.text 2000) (fun r hr => Go.Proofs.Ytbpmcnfmgaolnaa.sticky r 2000 hr) h2 e2
  have w1 := Writes.st writes_ref h1 e1 hb
  have w2 := Writes.st ht h2 e2 w1.2.2
  have w3 := Writes.st hf4 h3 e3 w2.2.2
  refine ⟨w1.1, ?_⟩
  show r.rest = (d.bytes ++ txt x ++ dig ((U : Nat) : Int).toNat 4) ++ r3.rest
  simp only [Int.toNat_natCast, List.append_assoc]
  rw [← w3.2.1, ← w2.2.1]
  exact w1.2.1
theorem writes_rep {α : Type} {f : Rd → α × Rd} {enc : α → List Int} (hf : Writes f enc) (hs : Sticky f) : ∀ n, Writes (Rd.rep f n) (fun l => l.flatMap enc)
  | 0 => fun r hb he => ⟨he, by simp [Rd.rep]⟩
  | n + 1 => fun r hb he => by
    have ih := writes_rep hf hs n
    have he' : (f (Rd.rep f n r).2).2.err = 0 := he
    have w := Writes.two ih hf hs hb he'
    refine ⟨w.1, ?_⟩
    show r.rest = ((Rd.rep f n r).1 ++ [(f (Rd.rep f n r).2).1]).flatMap enc ++ (f (Rd.rep f n r).2).2.rest
    rw [List.flatMap_append, List.flatMap_singleton, List.append_assoc]
    exact w.2.2.2
theorem writes_txRaw : Writes Rd.txRaw TxD.bytes := by
  intro r hb he
  have hf4 : Writes (fun r => r.fixed 4) (fun n => dig n 4) := writes_fixed 4 (by decide) (by decide)
  have hc := writes_count 200
  obtain ⟨V, r1, h1⟩ : ∃ V r1, r.fixed 4 = (V, r1) := ⟨_, _, rfl⟩
  obtain ⟨N, r2, h2⟩ : ∃ N r2, r1.count 200 = (N, r2) := ⟨_, _, rfl⟩
  obtain ⟨is, r3, h3⟩ : ∃ is r3, Rd.rep Rd.inn N r2 = (is, r3) := ⟨_, _, rfl⟩
  obtain ⟨M, r4, h4⟩ : ∃ M r4, r3.count 200 = (M, r4) := ⟨_, _, rfl⟩
  obtain ⟨os, r5, h5⟩ : ∃ os r5, Rd.rep Rd.out M r4 = (os, r5) := ⟨_, _, rfl⟩
  obtain ⟨U, r6, h6⟩ : ∃ U r6, r5.fixed 4 = (U, r6) := ⟨_, _, rfl⟩
  have e : r.txRaw = (⟨(V : Int), is, os, (U : Int)⟩, r6) := by
    have := txRaw_eq r V r1 N r2 M r4 U r6 h1 h2 (by rw [h3]; exact h4) (by rw [h5]; exact h6)
    rw [this, h3, h5]
  rw [e] at he ⊢
  have e6 : r6.err = 0 := he
  have e5 : r5.err = 0 := Sticky.up (fixed_sticky 4) h6 e6
  have e4 : r4.err = 0 := Sticky.up (rep_sticky out_sticky M) h5 e5
  have e3 : r3.err = 0 := Sticky.up (f := fun r => r.count 200) (fun r hr => sticky_count r 200 hr) h4 e4
  have e2 : r2.err = 0 := Sticky.up (rep_sticky inn_sticky N) h3 e3
  have e1 : r1.err = 0 := Sticky.up (f := fun r => r.count 200) (fun r hr => sticky_count r 200 hr) h2 e2
  have w1 := Writes.st hf4 h1 e1 hb
  have w2 := Writes.st hc h2 e2 w1.2.2
  have w3 := Writes.st (writes_rep writes_inn inn_sticky N) h3 e3 w2.2.2
  have w4 := Writes.st hc h4 e4 w3.2.2
  have w5 := Writes.st (writes_rep writes_out out_sticky M) h5 e5 w4.2.2
  have w6 := Writes.st hf4 h6 e6 w5.2.2
  have l3 : is.length = N := by have := rep_len Rd.inn N r2; rw [h3] at this; exact this
  have l5 : os.length = M := by have := rep_len Rd.out M r4; rw [h5] at this; exact this
  refine ⟨w1.1, ?_⟩
  show r.rest = (dig ((V : Nat) : Int).toNat 4 ++ cnt is.length ++ is.flatMap InD.bytes ++ cnt os.length ++ os.flatMap OutD.bytes ++ dig ((U : Nat) : Int).toNat 4) ++ r6.rest
  rw [l3, l5, Int.toNat_natCast, Int.toNat_natCast]
  simp only [List.append_assoc]
  rw [← w6.2.1, ← w5.2.1, ← w4.2.1, ← w3.2.1, ← w2.2.1]
  exact w1.2.1
theorem writes_tx : Writes Rd.tx TxD.bytes := by
  intro r hb he
  have hE : r.txRaw.2.err = 0 := by
    unfold Rd.tx at he
    split at he
    · exact he
    · exact he
  have e : r.tx = r.txRaw := by unfold Rd.tx; rw [if_neg (by rw [hE]; decide)]
  rw [e]
  exact writes_txRaw r hb hE
theorem writes_head : Writes Rd.head HeadD.bytes := by
  intro r hb he
  have hE : r.headRaw.2.err = 0 := by
    unfold Rd.head at he
    split at he
    · exact he
    · exact he
  have e : r.head = r.headRaw := by unfold Rd.head; rw [if_neg (by rw [hE]; decide)]
  rw [e]
  have hf4 : Writes (fun r => r.fixed 4) (fun n => dig n 4) := writes_fixed 4 (by decide) (by decide)
  have hr32 : Writes (fun r => r.raw 32) (fun x => x) := writes_raw 32 (by decide)
  obtain ⟨V, r1, h1⟩ : ∃ V r1, r.fixed 4 = (V, r1) := ⟨_, _, rfl⟩
  obtain ⟨P, r2, h2⟩ : ∃ P r2, r1.raw 32 = (P, r2) := ⟨_, _, rfl⟩
  obtain ⟨R, r3, h3⟩ : ∃ R r3, r2.raw 32 = (R, r3) := ⟨_, _, rfl⟩
  obtain ⟨T, r4, h4⟩ : ∃ T r4, r3.fixed 4 = (T, r4) := ⟨_, _, rfl⟩
  obtain ⟨B, r5, h5⟩ : ∃ B r5, r4.fixed 4 = (B, r5) := ⟨_, _, rfl⟩
  obtain ⟨N, r6, h6⟩ : ∃ N r6, r5.fixed 4 = (N, r6) := ⟨_, _, rfl⟩
  have eh : r.headRaw = (⟨(V : Int), P, R, (T : Int), (B : Int), (N : Int)⟩, r6) := by simp only [Rd.headRaw, h1, h2, h3, h4, h5, h6]
  rw [eh] at hE ⊢
  have e6 : r6.err = 0 := hE
  have e5 : r5.err = 0 := Sticky.up (fixed_sticky 4) h6 e6
  have e4 : r4.err = 0 := Sticky.up (fixed_sticky 4) h5 e5
  have e3 : r3.err = 0 := Sticky.up (fixed_sticky 4) h4 e4
  have e2 : r2.err = 0 := Sticky.up (raw_sticky 32) h3 e3
  have e1 : r1.err = 0 := Sticky.up (raw_sticky 32) h2 e2
  have w1 := Writes.st hf4 h1 e1 hb
  have w2 := Writes.st hr32 h2 e2 w1.2.2
  have w3 := Writes.st hr32 h3 e3 w2.2.2
  have w4 := Writes.st hf4 h4 e4 w3.2.2
  have w5 := Writes.st hf4 h5 e5 w4.2.2
  have w6 := Writes.st hf4 h6 e6 w5.2.2
  refine ⟨w1.1, ?_⟩
  show r.rest = (dig ((V : Nat) : Int).toNat 4 ++ P ++ R ++ dig ((T : Nat) : Int).toNat 4 ++ dig ((B : Nat) : Int).toNat 4 ++ dig ((N : Nat) : Int).toNat 4) ++ r6.rest
  simp only [Int.toNat_natCast, List.append_assoc]
  rw [← w6.2.1, ← w5.2.1, ← w4.2.1, ← w3.2.1, ← w2.2.1]
  exact w1.2.1
theorem head_sticky : Sticky Rd.head := fun r hr => by
  have h1 : (r.fixed 4).2 = r := fixed_sticky 4 r hr
  have h2 : (r.raw 32).2 = r := raw_sticky 32 r hr
  have h3 : r.headRaw.2 = r := by simp only [Rd.headRaw, h1, h2]
  unfold Rd.head
  rw [h3, if_pos hr]
theorem writes_blk : Writes Rd.blk BlkD.bytes := by
  intro r hb he
  have hc := writes_count 100
  have he' : (Rd.rep Rd.tx (r.head.2.count 100).1 (r.head.2.count 100).2).2.err = 0 := he
  have wt := writes_rep writes_tx tx_sticky (r.head.2.count 100).1
  have e2 : (r.head.2.count 100).2.err = 0 := by
    apply Classical.byContradiction
    intro h9
    rw [rep_sticky tx_sticky _ _ h9] at he'; exact h9 he'
  have w1 := Writes.two writes_head hc (fun r hr => sticky_count r 100 hr) hb e2
  have hb2 : Byt (r.head.2.count 100).2.rest := hc.tail w1.2.2.1 e2
  have w2 := wt (r.head.2.count 100).2 hb2 he'
  refine ⟨w1.1, ?_⟩
  show r.rest = (r.head.1.bytes ++ cnt (Rd.rep Rd.tx (r.head.2.count 100).1 (r.head.2.count 100).2).1.length ++ (Rd.rep Rd.tx (r.head.2.count 100).1 (r.head.2.count 100).2).1.flatMap TxD.bytes) ++ (Rd.rep Rd.tx (r.head.2.count 100).1 (r.head.2.count 100).2).2.rest
  rw [rep_len, List.append_assoc, List.append_assoc, ← w2.2]
  exact w1.2.2.2
theorem parseB_writes (b : List Int) (hb : Byt b) (h : (parseB b).2 = 0) : (parseB b).1.bytes = b := by
  unfold parseB at h ⊢
  split at h
  · rename_i he; exact absurd h he
  · rename_i he
    have he0 : (Rd.blk ⟨b, 0⟩).2.err = 0 := Classical.not_not.1 he
    rw [if_neg he]
    split at h
    · simp at h
    · rename_i hl
      rw [if_neg hl]
      have w := (writes_blk ⟨b, 0⟩ hb he0).2
      have hr : (Rd.blk ⟨b, 0⟩).2.rest = [] := List.eq_nil_of_length_eq_zero (by omega)
      rw [hr, List.append_nil] at w
      exact w.symm
end Go.Proofs.Ytbpmcnfmgaolnaa
/-
  block.headRead, HeadParse.
-/
namespace Go.Proofs.Ytbpmcnfmgaolnaa
open Go.RowKit

def HeadPost (T : TypeId) (w : World) (g h : Nat) (r' : Rd) (d : HeadD) (e : Ending) (w' : World) : Prop :=
  e = .returned (.agg d.cells.toArray) ∧ d.Fine ∧ RdAt T w' g h r' ∧ Only (fun i => i = g) w w'
theorem len32 {w : World} {A : Option Addr} {n : Nat} {X : List Int} (hB : Bys w A n X) (hX : X.length = 32 ∨ X = []) : n ≤ 32 := by
  have h1 := hB.1
  rcases hX with h2 | h2
  · omega
  · rw [h2] at h1; simp at h1; omega
/-- The first j of three numbers, read. -/
def Three (r3 : Rd) (j : Nat) (vs : List Nat) (rj : Rd) : Prop := Rd.rep (fun r => r.fixed 4) j r3 = (vs, rj) ∧ vs.length = j ∧ ∀ v ∈ vs, v < 4294967296
theorem Three.next {r3 : Rd} {j : Nat} {vs : List Nat} {rj r6 : Rd} {F : Nat} (h : Three r3 j vs rj) (hF : rj.fixed 4 = (F, r6)) (hl : F < 4294967296) : Three r3 (j + 1) (vs ++ [F]) r6 := by
  refine ⟨?_, by simp [h.2.1], fun v hv => ?_⟩
  · rw [Rd.rep, h.1]
    show (vs ++ [(rj.fixed 4).1], (rj.fixed 4).2) = _
    rw [hF]
  · rcases List.mem_append.1 hv with hv | hv
    · exact h.2.2 v hv
    · simp at hv; rw [hv]; exact hl
theorem Three.three {r3 : Rd} {vs : List Nat} {rj : Rd} (h : Three r3 3 vs rj) : ∃ a b c ra rb, vs = [a, b, c] ∧ r3.fixed 4 = (a, ra) ∧ ra.fixed 4 = (b, rb) ∧ rb.fixed 4 = (c, rj) ∧ ∀ v ∈ [a, b, c], v < 4294967296 := by
  obtain ⟨h1, h2, h3⟩ := h
  simp only [Rd.rep, List.nil_append, List.cons_append, Prod.mk.injEq] at h1
  obtain ⟨h4, h5⟩ := h1
  subst h4
  exact ⟨_, _, _, _, _, rfl, rfl, rfl, by rw [← h5]; rfl, h3⟩
theorem fill_nil (v : Int) (X Y : List Int) : (((headV v).withPrev X).withRoot Y).fill [] = ((headV v).withPrev X).withRoot Y := by
  unfold HeadD.withRoot HeadD.withPrev
  split <;> split <;> rfl
theorem results_head (fn : Func) (p : Tmp) (h : fn.results = #[.cell p 33]) (tmps : Array Value) (w : World) (g : Nat) (d : HeadD) (hf : d.Fine) (hp : tmps.getD p undef = .pointer (some ⟨g, 0, none⟩)) (hb : Blk w g 33 d.cells) : (results fn tmps).run Try.prog w = .ok (.agg d.cells.toArray) w :=
  results_cell_blk h tmps w g 33 d.cells _ hp hb Try.underlying33 rfl (by rw [HeadD.cells_len hf]; exact isHead)
theorem wpList_store_head {ops : Array Oper} {rest : List Oper} {op : Oper} {a : Act} {w : World} {Q : Exit → Act → World → Prop} (hgd : op.guard = none) (x y : Operand) (ho : op.op = .store 33 x y)
    (g : Nat) (c d : HeadD) (hc : c.Fine) (hd : d.Fine) (hx : a.eval x = .pointer (some ⟨g, 0, none⟩)) (hy : a.eval y = .agg d.cells.toArray) (hb : Blk w g 33 c.cells)
    (h : ∀ w', Only (fun i => i = g) w w' → w'.heap.size = w.heap.size → Blk w' g 33 d.cells → wpList Try.prog ops Q rest (a.put op.dst undef) w') : wpList Try.prog ops Q (op :: rest) a w := by
  refine wpList_store_blk hgd 33 x y ho g 0 33 c.cells d.cells hx hy hb (by rw [HeadD.cells_len hc, HeadD.cells_len hd]; exact Nat.le_refl _) (by rw [HeadD.cells_len hd]; exact isHead) (HeadD.one d) ?_
  intro w' o z b
  rw [lay_all _ _ (by rw [HeadD.cells_len hc, HeadD.cells_len hd])] at b
  exact h w' o z b
theorem RdAt.drewx {T : TypeId} {w : World} {g h : Nat} {r : Rd} (hR : RdAt T w g h r) : RdAt T w.drew g h r := hR.below (Below.refl _ w).drew
attribute [local go_sem ↓] loadHead_fold mkHead_fold
attribute [local go_sem] mkHead_zero
set_option maxHeartbeats 8000000 in
set_option maxRecDepth 100000 in
theorem headRead_any (w : World) (g h : Nat) (r : Rd) (hR : RdAt 164 w g h r) :
    Calls Try.prog 76 #[.pointer (some ⟨g, 0, none⟩)] w (HeadPost 164 w g h r.head.2 r.head.1) := by
  have hgl := hR.lt.1
  have hhl := hR.lt.2
  have HGL := hide hgl
  have HHL := hide hhl
  have hR0 := hR.below ((Below.refl _ w).alloc (Nat.le_refl _) (.cells zeroH.cells.toArray 33))
  have BZ := hide (Blk.new w 33 zeroH.cells)
  have O0 := hide (Only.alloc0 (F := fun i => i = g) w (.cells zeroH.cells.toArray 33))
  have hby := hide (show Byt r.rest by obtain ⟨_, _, _, _, hB2, _⟩ := hR0; exact hB2.2.1)
  clear hR hgl hhl
  go_enter Try.func76, Try.ntmps76
  go_wp2_with (refine wpList_alloc_agg rfl 33 rfl zeroH.cells zeroHead_info ?_; simp only [Act.put, List.setIfInBounds_toArray, List.set_cons_zero, List.set_cons_succ])
  refine (RFixed_any _ g h _ 4 hR0).mono ?_
  rintro e w2 ⟨rfl, hR2, o2⟩
  have hV := hide (fixed_u32 r hby.out)
  obtain ⟨V, r1, h1⟩ : ∃ V r1, r.fixed 4 = (V, r1) := ⟨_, _, rfl⟩
  rw [h1] at hR2 hV ⊢
  simp only at hR2 hV ⊢
  have H1 := hide h1
  have B2 := hide (o2.blk BZ.out (show ¬ w.heap.size = g by have := HGL.out; omega))
  have O2 := hide (O0.out.trans o2 (fun _ _ h => h))
  have hconv : IntKind.u32.wrap (V : Int) = (V : Int) := by rw [IntKind.wrap_u32]; have := hV.out; omega
  have hmk := mkHead_v (V : Int)
  have HVF := hide (headV_fine (v := (V : Int)) ⟨by omega, by have := hV.out; omega⟩)
  have HR2 := hide hR2
  have KZ2 := hide (Blk.new w2 33 zeroH.cells)
  obtain ⟨q, hq⟩ : ∃ q, q = w2.heap.size := ⟨_, rfl⟩
  have hqs := hide (show w.heap.size < q ∧ q = w2.heap.size by refine ⟨?_, hq⟩; rw [hq]; exact B2.out.lt)
  have HQ := hide hq
  clear BZ O0 o2 hR0 h1 hR2 hq
  go_wp2_with (first
    | (refine wpList_alloc_agg rfl 33 rfl zeroH.cells zeroHead_info ?_; simp only [Act.put, List.setIfInBounds_toArray, List.set_cons_zero, List.set_cons_succ])
    | (refine wpList_store_head rfl _ _ rfl w2.heap.size zeroH (headV (V : Int)) zeroH_fine HVF.out (by rfl) (by rfl) KZ2.out ?_; intro w3 o3 z3 b3; rw [← HQ.out] at o3 b3 ⊢; have K3 := hide b3; have O23 := hide (((Only.refl (fun i => i = q) w2).alloc (.cells zeroH.cells.toArray 33)).trans o3 (fun _ _ h => h)); clear o3 z3 b3; simp only [Act.put]))
  have B3 := hide (O23.out.blk B2.out (show ¬ w.heap.size = q by have := hqs.out; omega))
  have R3 := hide (HR2.out.keep O23.out (show ¬ g = q by have := hqs.out; have := HGL.out; omega) (show ¬ h = q by have := hqs.out; have := HHL.out; omega))
  have hnq := hide (show ¬ q = g ∧ ¬ q = h ∧ ¬ w.heap.size = g ∧ ¬ w.heap.size = q ∧ w.heap.size < q by have := hqs.out; have := HGL.out; have := HHL.out; omega)
  have O3 := hide (show Only (fun i => i = g) w w3 from O2.out.trans O23.out (fun i hi e => by have h9 : i = q := e; have := hqs.out; omega))
  clear KZ2 O23 B2 O2 HR2 hmk
  have R3d := hide (show RdAt 164 w3.drew g h r1 from R3.out.drewx)
  have K3d := hide (show Blk w3.drew q 33 (headV (V : Int)).cells from K3.out)
  have B3d := hide (show Blk w3.drew w.heap.size 33 zeroH.cells from B3.out)
  have O3d := hide (show Only (fun i => i = g) w w3.drew from O3.out.drew)
  refine wp_region_held_drew (S := fun _ => True) (by kernel_rfl) (trivial) (fun hSA0 => ?_)
  obtain ⟨w3d, hwA⟩ : ∃ x, x = w3.drew := ⟨_, rfl⟩
  rw [← hwA] at R3d K3d B3d O3d ⊢
  clear hwA
  (refine wpAnyH_take (i := 0) (oi := ⟨some 11, .fieldAddr 33 (.tmp 3) 1, 0, "block.go:33", #[], none⟩) (v := ?_) rfl (by kernel_rfl) (by kernel_rfl) (by kernel_rfl) (fun _ _ _ h => h) (Or.inl ⟨by rfl, fun w' hSw => ?_⟩) hSA0 ?_; rotate_left; focus (go_simp; try with_reducible rfl))
  simp only [Act.put, List.setIfInBounds_toArray, List.set_cons_zero, List.set_cons_succ]
  (refine wpAnyH_take (i := 1) (oi := ⟨some 12, .slice 31 (.tmp 11) Option.none Option.none Option.none, 56, "block.go:33", #[⟨0, .data⟩], none⟩) (v := ?_) rfl (by kernel_rfl) (by kernel_rfl) (by kernel_rfl) (fun _ _ _ h => h) (Or.inl ⟨by rfl, fun w' hSw => ?_⟩) hSA0 ?_; rotate_left; focus (go_simp; try with_reducible rfl))
  simp only [Act.put, List.setIfInBounds_toArray, List.set_cons_zero, List.set_cons_succ]
  (refine wpAnyH_take (i := 2) (oi := ⟨some 13, .move (.tmp 0), 119, "block.go:33", #[], none⟩) (v := ?_) rfl (by kernel_rfl) (by kernel_rfl) (by kernel_rfl) (fun _ _ _ h => h) (Or.inl ⟨by rfl, fun w' hSw => ?_⟩) hSA0 ?_; rotate_left; focus (go_simp; try with_reducible rfl))
  simp only [Act.put, List.setIfInBounds_toArray, List.set_cons_zero, List.set_cons_succ]
  refine wpAnyH_ready (rs := [3]) (by kernel_rfl) (by simp) ?_
  refine AllReadyH.cons rfl (fun K hK => ?_) AllReadyH.nil
  go_simp
  refine (Raw_any _ g h _ 32 R3d.out).mono ?_
  rintro e wra ⟨Aa, na, ca, rfl, hBa, hca, hfa, hRa, oa⟩
  go_simp
  obtain ⟨X, r2, ha⟩ : ∃ x y, Rd.raw r1 32 = (x, y) := ⟨_, _, rfl⟩
  have hrba := raw_byt r1 32 (by obtain ⟨_, _, _, _, hB2, _⟩ := R3.out; exact hB2.2.1)
  rw [ha] at hRa hBa hrba
  simp only at hRa hBa hrba
  have Ha := hide ha
  have HXa := hide (raw_some _ _ _ ha)
  have HBa := hide hrba
  have KRa := hide (oa.blk K3d.out hnq.out.1)
  have BRa := hide (oa.blk B3d.out hnq.out.2.2.1)
  clear ha hrba hca hfa
  refine hK.out _ _ (trivial) (fun hSA1 => ?_)
  clear hK K
  refine wpAnyH_ready (rs := [4]) (by kernel_rfl) (by simp) ?_
  refine AllReadyH.cons rfl (fun K hK => ?_) AllReadyH.nil
  refine step_copy_bys rfl 15 rfl _ _ rfl q 1 32 Aa na ca (by rfl) (by rfl) X _ 33 hBa (len32 hBa HXa.out) KRa.out (by rw [HeadD.cells_len HVF.out]; decide) ?_
  intro wca oca zca bca
  rw [HeadD.lay_prev HVF.out X HXa.out] at bca
  refine hK.out _ _ (trivial) (fun hSA2 => ?_)
  clear hK K
  refine wpAnyH_done (by kernel_rfl) ?_ _
  have K4 := hide bca
  have R4 := hide (hRa.keep oca (fun e => hnq.out.1 e.symm) (fun e => hnq.out.2.1 e.symm))
  have B4 := hide (oca.blk BRa.out hnq.out.2.2.2.1)
  have O4 := hide (show Only (fun i => i = g) w wca from (O3d.out.trans oa (fun _ _ e => e)).trans oca (fun i hi e => by have h9 : i = q := e; have := hnq.out.2.2.2.2; omega))
  have HPF := hide (HeadD.withPrev_fine HVF.out X HBa.out)
  clear K3 R3 B3 O3 KRa BRa oa oca zca bca hBa hRa
  go_wp2_with fail
  have R4d := hide (show RdAt 164 wca.drew g h r2 from R4.out.drewx)
  have K4d := hide (show Blk wca.drew q 33 _ from K4.out)
  have B4d := hide (show Blk wca.drew w.heap.size 33 zeroH.cells from B4.out)
  have O4d := hide (show Only (fun i => i = g) w wca.drew from O4.out.drew)
  refine wp_region_held_drew (S := fun _ => True) (by kernel_rfl) (trivial) (fun hSB0 => ?_)
  obtain ⟨wcad, hwB⟩ : ∃ x, x = wca.drew := ⟨_, rfl⟩
  rw [← hwB] at R4d K4d B4d O4d ⊢
  clear hwB
  (refine wpAnyH_take (i := 0) (oi := ⟨some 16, .fieldAddr 33 (.tmp 3) 2, 0, "block.go:34", #[], none⟩) (v := ?_) rfl (by kernel_rfl) (by kernel_rfl) (by kernel_rfl) (fun _ _ _ h => h) (Or.inl ⟨by rfl, fun w' hSw => ?_⟩) hSB0 ?_; rotate_left; focus (go_simp; try with_reducible rfl))
  simp only [Act.put, List.setIfInBounds_toArray, List.set_cons_zero, List.set_cons_succ]
  (refine wpAnyH_take (i := 1) (oi := ⟨some 17, .slice 31 (.tmp 16) Option.none Option.none Option.none, 56, "block.go:34", #[⟨0, .data⟩], none⟩) (v := ?_) rfl (by kernel_rfl) (by kernel_rfl) (by kernel_rfl) (fun _ _ _ h => h) (Or.inl ⟨by rfl, fun w' hSw => ?_⟩) hSB0 ?_; rotate_left; focus (go_simp; try with_reducible rfl))
  simp only [Act.put, List.setIfInBounds_toArray, List.set_cons_zero, List.set_cons_succ]
  (refine wpAnyH_take (i := 2) (oi := ⟨some 18, .move (.tmp 0), 119, "block.go:34", #[], none⟩) (v := ?_) rfl (by kernel_rfl) (by kernel_rfl) (by kernel_rfl) (fun _ _ _ h => h) (Or.inl ⟨by rfl, fun w' hSw => ?_⟩) hSB0 ?_; rotate_left; focus (go_simp; try with_reducible rfl))
  simp only [Act.put, List.setIfInBounds_toArray, List.set_cons_zero, List.set_cons_succ]
  refine wpAnyH_ready (rs := [3]) (by kernel_rfl) (by simp) ?_
  refine AllReadyH.cons rfl (fun K hK => ?_) AllReadyH.nil
  go_simp
  refine (Raw_any _ g h _ 32 R4d.out).mono ?_
  rintro e wrb ⟨Ab, nb, cb, rfl, hBb, hcb, hfb, hRb, ob⟩
  go_simp
  obtain ⟨Y, r3, hb⟩ : ∃ x y, Rd.raw r2 32 = (x, y) := ⟨_, _, rfl⟩
  have hrbb := raw_byt r2 32 (by obtain ⟨_, _, _, _, hB2, _⟩ := R4.out; exact hB2.2.1)
  rw [hb] at hRb hBb hrbb
  simp only at hRb hBb hrbb
  have Hb := hide hb
  have HXb := hide (raw_some _ _ _ hb)
  have HBb := hide hrbb
  have KRb := hide (ob.blk K4d.out hnq.out.1)
  have BRb := hide (ob.blk B4d.out hnq.out.2.2.1)
  clear hb hrbb hcb hfb
  refine hK.out _ _ (trivial) (fun hSB1 => ?_)
  clear hK K
  refine wpAnyH_ready (rs := [4]) (by kernel_rfl) (by simp) ?_
  refine AllReadyH.cons rfl (fun K hK => ?_) AllReadyH.nil
  refine step_copy_bys rfl 20 rfl _ _ rfl q 33 32 Ab nb cb (by rfl) (by rfl) Y _ 33 hBb (len32 hBb HXb.out) KRb.out (by rw [HeadD.cells_len HPF.out]; decide) ?_
  intro wcb ocb zcb bcb
  rw [HeadD.lay_root HPF.out Y HXb.out] at bcb
  refine hK.out _ _ (trivial) (fun hSB2 => ?_)
  clear hK K
  refine wpAnyH_done (by kernel_rfl) ?_ _
  have K5 := hide bcb
  have R5 := hide (hRb.keep ocb (fun e => hnq.out.1 e.symm) (fun e => hnq.out.2.1 e.symm))
  have B5 := hide (ocb.blk BRb.out hnq.out.2.2.2.1)
  have O5 := hide (show Only (fun i => i = g) w wcb from (O4d.out.trans ob (fun _ _ e => e)).trans ocb (fun i hi e => by have h9 : i = q := e; have := hnq.out.2.2.2.2; omega))
  have HRF := hide (HeadD.withRoot_fine HPF.out Y HBb.out)
  clear K4 R4 B4 O4 KRb BRb ob ocb zcb bcb hBb hRb
  obtain ⟨hd, hhd⟩ : ∃ hd, hd = ((headV (V : Int)).withPrev X).withRoot Y := ⟨_, rfl⟩
  rw [← hhd] at HRF K5
  have HHD := hide hhd
  clear hhd
  have HFN := hide (show hd.fill [] = hd by rw [HHD.out]; exact fill_nil _ _ _)
  go_wp2_with fail
  go_loopw [27] (fun i wr => ∃ (j : Nat) (vs : List Nat) (rj : Rd), j ≤ 3 ∧ i = .int .i64 (j : Int) ∧ Three r3 j vs rj ∧ RdAt 164 wr g h rj ∧ Blk wr q 33 (hd.fill vs).cells ∧ Only (fun i => i = g ∨ i = q) wcb wr) (fun i _ => 3 - (intOf i).toNat)
  case atStart => exact ⟨0, [], r3, by decide, rfl, ⟨rfl, rfl, by simp⟩, R5.out, by rw [HFN.out]; exact K5.out, Only.refl _ _⟩
  case round =>
    obtain ⟨j, vs, rj, hj, rfl, hT, hRj, hKj, hO⟩ := hrel
    have HT := hide hT
    have HRj := hide hRj
    have HKj := hide hKj
    have HOj := hide hO
    clear hT hRj hKj hO
    by_cases hlt : j < 3
    · have hix := indexP_run q j hlt
      have i1 : (j : Int) < 3 := by omega
      go_wp2_with fail
      refine (RFixed_any _ g h _ 4 HRj.out).mono ?_
      rintro e w6 ⟨rfl, hR6, o6⟩
      have hF := fixed_u32 rj (by obtain ⟨_, _, _, _, hB2, _⟩ := HRj.out; exact hB2.2.1)
      obtain ⟨F, r6, h6⟩ : ∃ x y, Rd.fixed rj 4 = (x, y) := ⟨_, _, rfl⟩
      rw [h6] at hR6 hF ⊢
      simp only at hR6 hF ⊢
      have hc6 : IntKind.u32.wrap (F : Int) = (F : Int) := by rw [IntKind.wrap_u32]; omega
      have HK6 := hide (o6.blk HKj.out hnq.out.1)
      have HT6 := hide (HT.out.next h6 hF)
      have hff := HeadD.fill_fine HRF.out vs HT.out.2.2
      obtain ⟨cv, hcv⟩ : ∃ v, (hd.fill vs).cells[65 + j]? = some v := ⟨_, List.getElem?_eq_getElem (by rw [HeadD.cells_len hff]; omega)⟩
      have cx : w6.cell? ⟨q, 65 + j, none⟩ = some cv := by rw [HK6.out.cell]; exact hcv
      have fx := HK6.out.frozen (65 + j)
      have K7 := HK6.out.set_ (65 + j) (.int .u32 (F : Int))
      rw [HeadD.fill_set HRF.out vs j F HT.out.2.1 hlt] at K7
      have HK7 := hide K7
      have HR7 := hide (hR6.keep ((Only.refl (fun i => i = q) w6).setCell (p := ⟨q, 65 + j, none⟩) (.inr rfl) (.int .u32 (F : Int))) (fun e => hnq.out.1 e.symm) (fun e => hnq.out.2.1 e.symm))
      have HO7 := hide (Only.setCell (F := fun i => i = g ∨ i = q) (p := ⟨q, 65 + j, none⟩) (HOj.out.trans o6 (fun _ _ e => .inl e)) (.inr (.inr rfl)) (.int .u32 (F : Int)))
      clear h6 hF hR6 o6 hff hcv K7 hix
      go_wp2_with fail
      exact ⟨⟨j + 1, vs ++ [F], r6, by omega, by simp, HT6.out, HR7.out, HK7.out, HO7.out⟩, by simp [intOf]; omega⟩
    · obtain rfl : j = 3 := by omega
      obtain ⟨a, b, c, ra, rb, rfl, e1, e2, e3, hv⟩ := HT.out.three
      have HE := hide (⟨e1, e2, e3⟩ : r3.fixed 4 = (a, ra) ∧ ra.fixed 4 = (b, rb) ∧ rb.fixed 4 = (c, rj))
      have HFF := hide (HeadD.fill_fine HRF.out [a, b, c] hv)
      have HB6 := hide (HOj.out.blk B5.out (fun e => by rcases e with e | e; exact hnq.out.2.2.1 e; exact hnq.out.2.2.2.1 e))
      have HO6 := hide (show Only (fun i => i = g) w wr from O5.out.trans HOj.out (fun i hi e => by rcases e with e | e; exact e; have := hnq.out.2.2.2.2; omega))
      have HRW := hide (show r.headRaw = (⟨(V : Int), X, Y, (a : Int), (b : Int), (c : Int)⟩, rj) by simp only [Rd.headRaw, H1.out, Ha.out, Hb.out, e1, e2, e3])
      clear e1 e2 e3 hv hlt hj
      go_wp2_with fail
      refine (Err_any _ g h _ HRj.out).mono ?_
      rintro e w8 ⟨rfl, rfl⟩
      by_cases he : rj.err = 0
      · have hc : (rj.err == 0) = true := by simp [he]
        have HRES := hide (show r.head = (hd.fill [a, b, c], rj) by
          have e2 : rb.err = 0 := Sticky.up (f := fun r => r.fixed 4) (fixed_sticky 4) HE.out.2.2 he
          have e3 : ra.err = 0 := Sticky.up (f := fun r => r.fixed 4) (fixed_sticky 4) HE.out.2.1 e2
          have e4 : r3.err = 0 := Sticky.up (f := fun r => r.fixed 4) (fixed_sticky 4) HE.out.1 e3
          have hY := raw_err r2 Y r3 Hb.out e4
          have e5 : r2.err = 0 := Sticky.up (f := fun r => r.raw 32) (raw_sticky 32) Hb.out e4
          have hX := raw_err r1 X r2 Ha.out e5
          unfold Rd.head
          rw [HRW.out, if_neg (fun h => h he), HHD.out]
          simp [HeadD.fill, HeadD.withRoot, HeadD.withPrev, hX, hY, headV])
        have hld := loadHead_run wr q 0 (hd.fill [a, b, c]) HKj.out.whole HFF.out
        go_wp2_with (refine wpList_store_head rfl _ _ rfl w.heap.size zeroH (hd.fill [a, b, c]) zeroH_fine HFF.out (by rfl) (by rfl) HB6.out ?_; intro w9 o9 z9 b9; simp only [Act.put])
        refine bodyPost_ret (results_head _ _ rfl _ _ w.heap.size (hd.fill [a, b, c]) HFF.out (by rfl) b9) rfl ⟨?_, ?_, ?_, ?_⟩
        · rw [HRES.out]
        · rw [HRES.out]; exact HFF.out
        · rw [HRES.out]; exact HRj.out.keep o9 (fun e => by have := HGL.out; omega) (fun e => by have := HHL.out; omega)
        · exact HO6.out.trans o9 (fun i hi e => by omega)
      · have hc : (rj.err == 0) = false := by simpa using he
        have HRES := hide (show r.head = (zeroH, rj) by
          unfold Rd.head
          rw [HRW.out, if_pos he])
        go_wp2_with (refine wpList_store_head rfl _ _ rfl w.heap.size zeroH zeroH zeroH_fine zeroH_fine (by rfl) (by rfl) HB6.out ?_; intro w9 o9 z9 b9; simp only [Act.put])
        refine bodyPost_ret (results_head _ _ rfl _ _ w.heap.size zeroH zeroH_fine (by rfl) b9) rfl ⟨?_, ?_, ?_, ?_⟩
        · rw [HRES.out]
        · rw [HRES.out]; exact zeroH_fine
        · rw [HRES.out]; exact HRj.out.keep o9 (fun e => by have := HGL.out; omega) (fun e => by have := HHL.out; omega)
        · exact HO6.out.trans o9 (fun i hi e => by omega)
end Go.Proofs.Ytbpmcnfmgaolnaa
/-
  block.HeadParse.
-/
namespace Go.Proofs.Ytbpmcnfmgaolnaa
open Go.RowKit

theorem results_head_tmp (fn : Func) (p u : Tmp) (h : fn.results = #[.cell p 33, .tmp u]) (tmps : Array Value) (w : World) (g : Nat) (d : HeadD) (hf : d.Fine) (hp : tmps.getD p undef = .pointer (some ⟨g, 0, none⟩)) (hb : Blk w g 33 d.cells) : (results fn tmps).run Try.prog w = .ok (.tuple #[.agg d.cells.toArray, tmps.getD u undef]) w :=
  results_cell_tmp_blk h tmps w g 33 d.cells _ hp hb Try.underlying33 rfl (by rw [HeadD.cells_len hf]; exact isHead)
theorem Rd.head_fine (r : Rd) (h : Byt r.rest) : r.head.1.Fine := by
  obtain ⟨V, r1, h1⟩ : ∃ V r1, r.fixed 4 = (V, r1) := ⟨_, _, rfl⟩
  have hb : ∀ (r : Rd), Byt r.rest → Byt (r.fixed 4).2.rest := fun r h => by
    unfold Rd.fixed Rd.raw
    simp only
    split
    · exact h
    · split
      · exact h
      · exact fun x hx => h x (List.mem_of_mem_drop hx)
  have hc : ∀ (r : Rd), Byt r.rest → Byt (r.raw 32).2.rest ∧ Byt (r.raw 32).1 := fun r h => by
    unfold Rd.raw
    split
    · exact ⟨h, fun x hx => by cases hx⟩
    · split
      · exact ⟨h, fun x hx => by cases hx⟩
      · exact ⟨fun x hx => h x (List.mem_of_mem_drop hx), fun x hx => h x (List.mem_of_mem_take hx)⟩
  have b1 := hb r h
  have b2 := hc _ b1
  have b3 := hc _ b2.1
  have b4 := hb _ b3.1
  have b5 := hb _ b4
  have l1 := fixed_u32 r h
  have l4 := fixed_u32 _ b3.1
  have l5 := fixed_u32 _ b4
  have l6 := fixed_u32 _ b5
  unfold Rd.head
  split
  · exact zeroH_fine
  · rename_i he
    have he0 : r.headRaw.2.err = 0 := Classical.not_not.1 he
    have e6 : (((((r.fixed 4).2.raw 32).2.raw 32).2.fixed 4).2.fixed 4).2.err = 0 := Sticky.up (f := fun r => r.fixed 4) (fixed_sticky 4) (rfl : Rd.fixed _ 4 = (_, _)) he0
    have e5 : ((((r.fixed 4).2.raw 32).2.raw 32).2.fixed 4).2.err = 0 := Sticky.up (f := fun r => r.fixed 4) (fixed_sticky 4) (rfl : Rd.fixed _ 4 = (_, _)) e6
    have e4 : (((r.fixed 4).2.raw 32).2.raw 32).2.err = 0 := Sticky.up (f := fun r => r.fixed 4) (fixed_sticky 4) (rfl : Rd.fixed _ 4 = (_, _)) e5
    have e3 : ((r.fixed 4).2.raw 32).2.err = 0 := Sticky.up (f := fun r => r.raw 32) (raw_sticky 32) (rfl : Rd.raw _ 32 = (_, _)) e4
    have x2 := raw_err _ _ _ (rfl : Rd.raw _ 32 = (_, _)) e3
    have x3 := raw_err _ _ _ (rfl : Rd.raw _ 32 = (_, _)) e4
    exact ⟨⟨by show (0 : Int) ≤ ((r.fixed 4).1 : Int); omega, by show ((r.fixed 4).1 : Int) ≤ 4294967295; omega⟩, x2, b2.2, x3, b3.2,
      ⟨by show (0 : Int) ≤ (((((r.fixed 4).2.raw 32).2.raw 32).2.fixed 4).1 : Int); omega, by show (((((r.fixed 4).2.raw 32).2.raw 32).2.fixed 4).1 : Int) ≤ 4294967295; omega⟩,
      ⟨by show (0 : Int) ≤ ((((((r.fixed 4).2.raw 32).2.raw 32).2.fixed 4).2.fixed 4).1 : Int); omega, by show ((((((r.fixed 4).2.raw 32).2.raw 32).2.fixed 4).2.fixed 4).1 : Int) ≤ 4294967295; omega⟩,
      ⟨by show (0 : Int) ≤ (((((((r.fixed 4).2.raw 32).2.raw 32).2.fixed 4).2.fixed 4).2.fixed 4).1 : Int); omega, by show (((((((r.fixed 4).2.raw 32).2.raw 32).2.fixed 4).2.fixed 4).2.fixed 4).1 : Int) ≤ 4294967295; omega⟩⟩
theorem parseH_fine (bs : List Int) (h : Byt bs) : (parseH bs).1.Fine := by
  unfold parseH
  split
  · exact zeroH_fine
  · split
    · exact zeroH_fine
    · exact Rd.head_fine ⟨bs, 0⟩ h
attribute [local go_sem ↓] loadHead_fold mkHead_fold
attribute [local go_sem] mkHead_zero
set_option maxHeartbeats 4000000 in
set_option maxRecDepth 100000 in
theorem HeadParse_any (w : World) (A : Option Addr) (n c : Nat) (bs : List Int) (hB : Bys w A n bs) (hn : n ≤ 1000000000) :
    Calls Try.prog 43 #[.slice A n c] w fun e w' => e = .returned (.tuple #[.agg (parseH bs).1.cells.toArray, .int .i64 (parseH bs).2]) ∧ Below w.heap.size w w' := by
  have HB := hide hB
  have HN := hide hn
  have HL := hide hB.1
  have HFB := hide hB.2.1
  have BZ := hide (Blk.new w 33 zeroH.cells)
  have b0 := hide (show Below w.heap.size w (w.alloc (.cells zeroH.cells.toArray 33)) from below_alloc (Below.refl _ _) _)
  clear hB hn
  by_cases h1 : n < 80
  · have i1 : (n : Int) < 80 := by omega
    have HR := hide (show parseH bs = (zeroH, 61) by unfold parseH; rw [if_pos (by rw [HL.out]; exact h1)])
    go_enter Try.func43, Try.ntmps43
    go_wp2_with (first
      | (refine wpList_alloc_agg rfl 33 rfl zeroH.cells zeroHead_info ?_; simp only [Act.put, List.setIfInBounds_toArray, List.set_cons_zero, List.set_cons_succ])
      | (refine wpList_store_head rfl _ _ rfl w.heap.size zeroH zeroH zeroH_fine zeroH_fine (by rfl) (by rfl) BZ.out ?_; intro w9 o9 z9 b9; simp only [Act.put]))
    refine bodyPost_ret (results_head_tmp _ _ _ rfl _ _ w.heap.size zeroH zeroH_fine (by rfl) b9) rfl ⟨by rw [HR.out]; rfl, ?_⟩
    exact b0.out.trans (o9.below (by simp) (fun i hi e => by have h9 : i = w.heap.size := e; omega))
  · have i1 : ¬ (n : Int) < 80 := by omega
    by_cases h2 : 80 < n
    · have i2 : (80 : Int) < (n : Int) := by omega
      have HR := hide (show parseH bs = (zeroH, 62) by unfold parseH; rw [if_neg (by rw [HL.out]; exact h1), if_pos (by rw [HL.out]; exact h2)])
      go_enter Try.func43, Try.ntmps43
      go_wp2_with (first
        | (refine wpList_alloc_agg rfl 33 rfl zeroH.cells zeroHead_info ?_; simp only [Act.put, List.setIfInBounds_toArray, List.set_cons_zero, List.set_cons_succ])
        | (refine wpList_store_head rfl _ _ rfl w.heap.size zeroH zeroH zeroH_fine zeroH_fine (by rfl) (by rfl) BZ.out ?_; intro w9 o9 z9 b9; simp only [Act.put]))
      refine bodyPost_ret (results_head_tmp _ _ _ rfl _ _ w.heap.size zeroH zeroH_fine (by rfl) b9) rfl ⟨by rw [HR.out]; rfl, ?_⟩
      exact b0.out.trans (o9.below (by simp) (fun i hi e => by have h9 : i = w.heap.size := e; omega))
    · have i2 : ¬ (80 : Int) < (n : Int) := by omega
      have HR := hide (show parseH bs = ((Rd.head ⟨bs, 0⟩).1, 0) by unfold parseH; rw [if_neg (by rw [HL.out]; exact h1), if_neg (by rw [HL.out]; exact h2)])
      clear h1 h2
      go_enter Try.func43, Try.ntmps43
      go_wp2_with (refine wpList_alloc_agg rfl 33 rfl zeroH.cells zeroHead_info ?_; simp only [Act.put, List.setIfInBounds_toArray, List.set_cons_zero, List.set_cons_succ])
      refine (New_any _ A n c bs (HB.out.below b0.out) HN.out).mono ?_
      rintro e w1 ⟨g, h, rfl, hR1, hg, hh, hb1⟩
      have B1 := hide (BZ.out.under hb1)
      have Bw1 := hide (Below.then_ b0.out hb1)
      have hgl := hide (show w.heap.size < g ∧ w.heap.size < h by simp at hg hh; omega)
      have HR1 := hide hR1
      clear hb1 hg hh hR1
      go_wp2_with fail
      refine (headRead_any w1 g h _ HR1.out).mono ?_
      rintro e w2 ⟨rfl, hdf, hR2, o2⟩
      obtain ⟨d, hd⟩ : ∃ d, d = (Rd.head ⟨bs, 0⟩).1 := ⟨_, rfl⟩
      rw [← hd] at hdf HR ⊢
      have HDF := hide hdf
      have B2 := hide (o2.blk B1.out (show ¬ w.heap.size = g by have := hgl.out; omega))
      have Bw2 := hide (Bw1.out.trans (o2.below Bw1.out.size (fun i hi e => by have h9 : i = g := e; have := hgl.out; omega)))
      clear hd hdf hR2 o2
      go_wp2_with (refine wpList_store_head rfl _ _ rfl w.heap.size zeroH d zeroH_fine HDF.out (by rfl) (by rfl) B2.out ?_; intro w9 o9 z9 b9; simp only [Act.put])
      refine bodyPost_ret (results_head_tmp _ _ _ rfl _ _ w.heap.size d HDF.out (by rfl) b9) rfl ⟨by rw [HR.out]; rfl, ?_⟩
      exact Bw2.out.trans (o9.below Bw2.out.size (fun i hi e => by have h9 : i = w.heap.size := e; omega))
end Go.Proofs.Ytbpmcnfmgaolnaa
/-
  Blocks read: plain laws on worlds: the transactions read so far; a block built of a head.
-/
namespace Go.Proofs.Ytbpmcnfmgaolnaa
open Go.RowKit

/-- What stays fine whatever turns in F. -/
def KeepT (w : World) (a : TxV) (F : Nat → Prop) : Prop := ∀ w', Only F w w' → a.Fine w'
theorem KeepT.step {w w' : World} {a : TxV} {F F' : Nat → Prop} (h : KeepT w a F) (ho : Only F w w') (hF : ∀ i, i < w.heap.size → F' i → F i) : KeepT w' a F' := fun w'' h2 => h w'' (ho.trans h2 hF)
/-- The transactions read so far. -/
structure TxsAt (T : TypeId) (w5 ws : World) (g h p : Nat) (hd : HeadD) (r4 : Rd) (j : Nat) (xs : List TxV) (A : Option Addr) (c : Nat) : Prop where
  len : xs.length = j
  data : xs.map TxV.d = (Rd.rep Rd.tx j r4).1
  rd : RdAt T ws g h (Rd.rep Rd.tx j r4).2
  blk : Blk ws p 40 (hd.cells ++ [.slice A j c])
  cap : j ≤ c
  row : ws.ownsRow w5.heap.size 37 4 (.slice A j c) j (xs.flatMap TxV.cells)
  keep : ∀ a ∈ xs, KeepT ws a (fun i => i < w5.heap.size ∨ (Value.slice A j c).ownBlock = some i)
  small : ∀ a ∈ xs, a.Small
  only : Only (fun i => i = g ∨ i = p) w5 ws
theorem TxsAt.drew {T : TypeId} {w5 ws : World} {g h p : Nat} {hd : HeadD} {r4 : Rd} {j : Nat} {xs : List TxV} {A : Option Addr} {c : Nat} (h0 : TxsAt T w5 ws g h p hd r4 j xs A c) : TxsAt T w5 ws.drew g h p hd r4 j xs A c :=
  ⟨h0.len, h0.data, h0.rd.drew, h0.blk, h0.cap, h0.row, fun a ha => (h0.keep a ha).step (Only.refl _ ws).drew (fun _ _ h => h), h0.small, h0.only.drew⟩
theorem TxsAt.later {T : TypeId} {w5 ws w' : World} {g h p : Nat} {hd : HeadD} {r4 : Rd} {j : Nat} {xs : List TxV} {A : Option Addr} {c : Nat} (hI : TxsAt T w5 ws g h p hd r4 j xs A c) (ho : Only (fun i => i < w5.heap.size) ws w') : TxsIn w' A j xs :=
  rows_of hI.len (fun _ _ => rfl) (ho.own hI.row (fun q hq e => by have := (hI.row.lt q hq).1; omega)) (fun a ha => hI.keep a ha w' (ho.mono (fun _ _ h => .inl h)))
theorem head_set {h : HeadD} (hf : h.Fine) (a b : Value) : (h.cells ++ [a]).set 68 b = h.cells ++ [b] := by
  rw [List.set_append_right _ _ (by rw [HeadD.cells_len hf]; exact Nat.le_refl _), HeadD.cells_len hf]; rfl
theorem cell68 {w : World} {g : Nat} {t : TypeId} {h : HeadD} {a : Value} (hb : Blk w g t (h.cells ++ [a])) (hf : h.Fine) : w.cell? ⟨g, 68, none⟩ = some a := by
  rw [hb.cell, head_at hf]; rfl
theorem TxsAt.next {T : TypeId} {w5 wa wb w9 : World} {o : Obj} {g h p : Nat} {hd : HeadD} {r4 r3 : Rd} {j : Nat} {xs : List TxV} {A : Option Addr} {c : Nat} {A9 : Option Addr} {c9 : Nat} {a : TxV} (hdf : hd.Fine)
    (hI : TxsAt T w5 wa g h p hd r4 j xs A c) (hr3 : r3 = (Rd.rep Rd.tx j r4).2) (had : a.d = r3.tx.1) (hfb : ∀ w'', Only (fun i => i < wa.heap.size) wb w'' → a.Fine w'') (hsm : a.Small)
    (hOb : Only (fun i => i = g) wa wb) (hRd : RdAt T (wb.alloc o) g h r3.tx.2)
    (q1 : w9.ownsRow w5.heap.size 37 4 (.slice A9 (j + 1) c9) (j + 1) (xs.flatMap TxV.cells ++ a.cells)) (q2 : j + 1 ≤ c9)
    (q3 : ∀ q, (Value.slice A9 (j + 1) c9).ownBlock = some q → (Value.slice A j c).ownBlock = some q ∨ (wb.alloc o).heap.size ≤ q) (q4 : Only (fun i => (Value.slice A j c).ownBlock = some i) (wb.alloc o) w9)
    (hg : g < w5.heap.size) (hh : h < w5.heap.size) (hp : p < w5.heap.size) (hne : p ≠ g) (hnh : p ≠ h) :
    TxsAt T w5 (w9.setCell ⟨p, 68, none⟩ (.slice A9 (j + 1) c9)) g h p hd r4 (j + 1) (xs ++ [a]) A9 c9 := by
  have hown := hI.row.lt
  have hown9 := q1.lt
  have hs := hI.only.size
  have hsb := hOb.size
  have hsa : (wb.alloc o).heap.size = wb.heap.size + 1 := by simp
  have hOc : Only (fun i => i = g) wa (wb.alloc o) := hOb.alloc o
  have hc9 := Only.cell1 w9 p 68 (.slice A9 (j + 1) c9)
  have hnow : ∀ i, i < w5.heap.size → ¬ (Value.slice A j c).ownBlock = some i := fun i hi e => by have := (hown i e).1; omega
  have hall : Only (fun i => i < w5.heap.size ∨ (Value.slice A j c).ownBlock = some i) wa (w9.setCell ⟨p, 68, none⟩ (.slice A9 (j + 1) c9)) :=
    ((hOc.mono (fun i _ h => .inl (by have h9 : i = g := h; omega))).trans q4 (fun _ _ h => .inr h)).trans hc9 (fun i _ h => .inl (by have h9 : i = p := h; omega))
  have hb9 : Only (fun i => i < wa.heap.size) wb (w9.setCell ⟨p, 68, none⟩ (.slice A9 (j + 1) c9)) :=
    (((Only.refl (fun i => i < wa.heap.size) wb).alloc o).trans q4 (fun i _ e => (hown i e).2)).trans hc9 (fun i _ h => by have h9 : i = p := h; omega)
  refine ⟨by simp [hI.len], ?_, ?_, ?_, q2, ?_, fun b hb => ?_, fun b hb => ?_, ?_⟩
  · rw [List.map_append, hI.data, Rd.rep, ← hr3, ← had]
    rfl
  · have : (Rd.rep Rd.tx (j + 1) r4).2 = r3.tx.2 := by rw [Rd.rep, ← hr3]
    rw [this]
    exact (hRd.keep q4 (hnow g hg) (hnow h hh)).keep hc9 (fun e => hne e.symm) (fun e => hnh e.symm)
  · have hb := (q4.blk (hOc.blk hI.blk hne) (hnow p hp)).set_ 68 (.slice A9 (j + 1) c9)
    rwa [head_set hdf] at hb
  · have e : (xs ++ [a]).flatMap TxV.cells = xs.flatMap TxV.cells ++ a.cells := by simp
    rw [e]
    exact hc9.own q1 (fun q hq e => by have := (hown9 q hq).1; have h9 : q = p := e; omega)
  · rcases List.mem_append.1 hb with hb | hb
    · refine (hI.keep b hb).step hall (fun i hi hf => ?_)
      rcases hf with hf | hf
      · exact .inl hf
      · rcases q3 i hf with h1 | h1
        · exact .inr h1
        · omega
    · obtain rfl : b = a := by simpa using hb
      intro w'' h2
      refine hfb w'' (hb9.trans h2 (fun i hi hf => ?_))
      rcases hf with hf | hf
      · show i < wa.heap.size; omega
      · rcases q3 i hf with h1 | h1
        · exact (hown i h1).2
        · omega
  · rcases List.mem_append.1 hb with hb | hb
    · exact hI.small b hb
    · obtain rfl : b = a := by simpa using hb
      exact hsm
  · exact ((hI.only.trans (hOc.mono (F := fun i => i = g) (G := fun i => i = g ∨ i = p) (fun _ _ h => .inl h)) (fun _ _ h => h)).trans q4 (fun i hi e => absurd e (hnow i hi))).trans hc9 (fun _ _ h => .inr h)
theorem tx_infoR : (Try.prog.info? 37).map (fun i => (i.size, i.bytes, i.zero.map (fun z => z.cells.size))) = some (4, 64, some 4) := by kernel_rfl
def mkTxs (parts : Array (Nat × Value)) : Sem Value := Instr.buildSlice 38 1 parts
theorem mkTxs_fold (parts : Array (Nat × Value)) : Instr.buildSlice 38 1 parts = mkTxs parts := rfl
theorem isTx4 : (Try.prog.info? 37).map (·.size) = some 4 := by kernel_rfl
theorem mkTxs_run (w : World) (a : TxV) : (mkTxs #[(0, .agg a.cells.toArray)]).run Try.prog w = .ok (.slice (some ⟨w.heap.size, 0, none⟩) 1 1) (w.alloc (.cells a.cells.toArray 37)) :=
  run_buildSlice_one 38 37 4 Try.underlying38 isTx4 (by kernel_rfl) (by decide) (by decide) a.cells rfl w
/-- A struct of two parts, built of the first. -/
theorem run_build0 {P : Program} (t : TypeId) (f0 f1 : Field) (k n : Nat) (hu : P.underlying t = some (.struct #[f0, f1])) (ho0 : f0.offset = 0) (ho1 : f1.offset = k)
    (hs0 : (P.info? f0.type).map (·.size) = some k) (hs1 : (P.info? f1.type).map (·.size) = some n) (zs : List Value) (hz : (P.info? t).map (·.zero) = some (some (.agg zs.toArray))) (hzl : zs.length = k + n)
    (v0 : Value) (vs0 : List Value) (h0 : v0.cells = vs0.toArray) (l0 : vs0.length = k) (w : World) :
    (Instr.build t #[(0, v0)]).run P w = .ok (.agg (vs0 ++ zs.drop k).toArray) w := by
  obtain ⟨i, hi, hzz⟩ : ∃ i, P.info? t = some i ∧ i.zero = some (.agg zs.toArray) := by
    cases hq : P.info? t with
    | none => simp [hq] at hz
    | some i => exact ⟨i, rfl, by simpa [hq] using hz⟩
  unfold Instr.build
  have hm : (#[f0, f1].mapM fun f => do pure (f.offset, ← sizeOf f.type) : Sem (Array (Nat × Nat))).run P w = .ok #[(0, k), (k, n)] w := by
    simp [ho0, ho1, run_size hs0, run_size hs1]
  have hf : Instr.fill (fun j => #[(0, k), (k, n)][j]?) zs.toArray [(0, v0)] = some (vs0 ++ zs.drop k).toArray := by
    rw [fill_one _ zs 0 v0 vs0 0 _ (by rw [l0]; rfl) h0 (by omega), Instr.fill]
    congr 2
    rw [lay_eq zs 0 vs0 (by omega), List.take_zero, List.nil_append, Nat.zero_add, l0]
  simp only [Sem.run_bind, run_zero hi hzz, Result.andThen_ok, run_underlying hu, hm, show (Value.agg zs.toArray).cells = zs.toArray from rfl]
  simp only [hf]
  simp
theorem mkBlk_head (h : HeadD) (hf : h.Fine) (w : World) : (mkBlk #[(0, .agg h.cells.toArray)]).run Try.prog w = .ok (.agg (h.cells ++ [Value.slice none 0 0]).toArray) w := by
  have := run_build0 (P := Try.prog) 40 _ _ 68 1 Try.underlying40 rfl rfl (by kernel_rfl) (by kernel_rfl) zeroB.cells zeroBlk_info rfl (.agg h.cells.toArray) h.cells rfl (HeadD.cells_len hf) w
  rw [mkBlk, this]
  rfl
end Go.Proofs.Ytbpmcnfmgaolnaa
/-
  block.Parse.
-/
namespace Go.Proofs.Ytbpmcnfmgaolnaa
open Go.RowKit

theorem results_blk_tmp (fn : Func) (p u : Tmp) (h : fn.results = #[.cell p 40, .tmp u]) (tmps : Array Value) (w : World) (g : Nat) (b : BlkV) (hf : b.head.Fine) (hp : tmps.getD p undef = .pointer (some ⟨g, 0, none⟩)) (hb : Blk w g 40 b.cells) : (results fn tmps).run Try.prog w = .ok (.tuple #[.agg b.cells.toArray, tmps.getD u undef]) w :=
  results_cell_tmp_blk h tmps w g 40 b.cells _ hp hb Try.underlying40 rfl (by rw [BlkV.cells_len hf]; exact isBlk)
theorem wpList_store_bk {ops : Array Oper} {rest : List Oper} {op : Oper} {a : Act} {w : World} {Q : Exit → Act → World → Prop} (hgd : op.guard = none) (x y : Operand) (ho : op.op = .store 40 x y)
    (g : Nat) (c d : BlkV) (hc : c.head.Fine) (hd : d.head.Fine) (hx : a.eval x = .pointer (some ⟨g, 0, none⟩)) (hy : a.eval y = .agg d.cells.toArray) (hb : Blk w g 40 c.cells)
    (h : ∀ w', Only (fun i => i = g) w w' → w'.heap.size = w.heap.size → Blk w' g 40 d.cells → wpList Try.prog ops Q rest (a.put op.dst undef) w') : wpList Try.prog ops Q (op :: rest) a w := by
  refine wpList_store_blk hgd 40 x y ho g 0 40 c.cells d.cells hx hy hb (by rw [BlkV.cells_len hc, BlkV.cells_len hd]; exact Nat.le_refl _) (by rw [BlkV.cells_len hd]; exact isBlk) (BlkV.one d) ?_
  intro w' o z b
  rw [lay_all _ _ (by rw [BlkV.cells_len hc, BlkV.cells_len hd])] at b
  exact h w' o z b
theorem zeroB_fine (w : World) : zeroB.Fine w := ⟨zeroH_fine, RowsIn.nil _ _ _ _ _, Nat.le_refl _⟩
theorem zeroB_small : zeroB.Small := ⟨by decide, by simp [zeroB]⟩
theorem zeroB_d : zeroB.d = zeroBD := rfl
def headB (h : HeadD) : BlkV := ⟨h, none, 0, 0, []⟩
def ParseBPost (w : World) (bs : List Int) (e : Ending) (w' : World) : Prop :=
  ∃ V : BlkV, e = .returned (.tuple #[.agg V.cells.toArray, .int .i64 (parseB bs).2]) ∧ V.d = (parseB bs).1 ∧ V.Fine w' ∧ V.Small ∧ Below w.heap.size w w'
/-- The same; what was read is of no memory of before. -/
def ParseBKeep (w : World) (bs : List Int) (e : Ending) (w' : World) : Prop :=
  ∃ V : BlkV, e = .returned (.tuple #[.agg V.cells.toArray, .int .i64 (parseB bs).2]) ∧ V.d = (parseB bs).1 ∧ (∀ w'', Only (fun i => i < w.heap.size) w' w'' → V.Fine w'') ∧ V.Small ∧ Below w.heap.size w w'
attribute [local go_sem ↓] loadHead_fold loadBlk_fold mkHead_fold mkBlk_fold mkTxs_fold
attribute [local go_sem] mkBlk_zero
set_option maxHeartbeats 8000000 in
set_option maxRecDepth 100000 in
theorem BParseK_any (w : World) (A : Option Addr) (n c : Nat) (bs : List Int) (hB : Bys w A n bs) (hn : n ≤ 1000000000) :
    Calls Try.prog 33 #[.slice A n c] w (ParseBKeep w bs) := by
  have HB := hide hB
  have HN := hide hn
  have BZ := hide (Blk.new w 40 zeroB.cells)
  have b0 := hide (show Below w.heap.size w (w.alloc (.cells zeroB.cells.toArray 40)) from below_alloc (Below.refl _ _) _)
  clear hB hn
  go_enter Try.func33, Try.ntmps33
  go_wp2_with (refine wpList_alloc_agg rfl 40 rfl zeroB.cells zeroBlk_info ?_; simp only [Act.put, List.setIfInBounds_toArray, List.set_cons_zero, List.set_cons_succ])
  refine (New_any _ A n c bs (HB.out.below b0.out) HN.out).mono ?_
  rintro e w1 ⟨g, h, rfl, hR1, hg, hh, hb1⟩
  have B1 := hide (BZ.out.under hb1)
  have Bw1 := hide (Below.then_ b0.out hb1)
  have hgl := hide (show w.heap.size < g ∧ w.heap.size < h ∧ g < w1.heap.size ∧ h < w1.heap.size by simp at hg hh; have := hR1.lt; omega)
  have HR1 := hide hR1
  clear hb1 hg hh hR1 b0 BZ
  go_wp2_with fail
  refine (headRead_any w1 g h _ HR1.out).mono ?_
  rintro e w2 ⟨rfl, hdf, hR2, o2⟩
  obtain ⟨hd, r2, hhd⟩ : ∃ hd r2, Rd.head ⟨bs, 0⟩ = (hd, r2) := ⟨_, _, rfl⟩
  rw [hhd] at hdf hR2 ⊢
  simp only at hdf hR2 ⊢
  have HHD := hide hhd
  have HDF := hide hdf
  have HR2 := hide hR2
  have B2 := hide (o2.blk B1.out (show ¬ w.heap.size = g by have := hgl.out; omega))
  have Bw2 := hide (Bw1.out.trans (o2.below Bw1.out.size (fun i hi e => by have h9 : i = g := e; have := hgl.out; omega)))
  have hmk := mkBlk_head hd hdf
  have KZ2 := hide (Blk.new w2 40 zeroB.cells)
  have hs2 := hide (show w1.heap.size ≤ w2.heap.size from o2.size)
  obtain ⟨p, hp⟩ : ∃ p, p = w2.heap.size := ⟨_, rfl⟩
  have HP := hide hp
  clear hhd hdf hR2 o2 B1 Bw1 HR1 hp
  go_wp2_with (first
    | (refine wpList_alloc_agg rfl 40 rfl zeroB.cells zeroBlk_info ?_; simp only [Act.put, List.setIfInBounds_toArray, List.set_cons_zero, List.set_cons_succ])
    | (refine wpList_store_bk rfl _ _ rfl w2.heap.size zeroB (headB hd) zeroH_fine HDF.out (by rfl) (by rfl) KZ2.out ?_; intro w3 o3 z3 b3; rw [← HP.out] at o3 b3 ⊢; have K3 := hide b3; have O23 := hide (((Only.refl (fun i => i = p) w2).alloc (.cells zeroB.cells.toArray 40)).trans o3 (fun _ _ h => h)); clear o3 z3 b3; simp only [Act.put]))
  have hnp := hide (show ¬ p = g ∧ ¬ p = h ∧ ¬ w.heap.size = g ∧ ¬ w.heap.size = p ∧ w.heap.size < p ∧ g < p ∧ h < p by have := hgl.out; have := HP.out; have := hs2.out; omega)
  have B3 := hide (O23.out.blk B2.out hnp.out.2.2.2.1)
  have R3 := hide (HR2.out.keep O23.out (fun e => hnp.out.1 e.symm) (fun e => hnp.out.2.1 e.symm))
  have Bw3 := hide (Bw2.out.trans (O23.out.below Bw2.out.size (fun i hi e => by have h9 : i = p := e; have := hnp.out; omega)))
  clear KZ2 O23 B2 Bw2 HR2 hmk
  refine (RCount_any _ g h _ 100 R3.out (by decide)).mono ?_
  rintro e w5 ⟨rfl, hR5, o5⟩
  have hNm := count_most r2 100
  obtain ⟨N, r4, h4⟩ : ∃ N r4, r2.count 100 = (N, r4) := ⟨_, _, rfl⟩
  have e100 : (100 : Int).toNat = 100 := rfl
  rw [e100] at hR5 ⊢
  rw [h4] at hR5 hNm ⊢
  simp only at hR5 hNm ⊢
  have H4 := hide h4
  have K5 := hide (o5.blk K3.out hnp.out.1)
  have B5 := hide (o5.blk B3.out hnp.out.2.2.1)
  have Bw5 := hide (Bw3.out.trans (o5.below Bw3.out.size (fun i hi e => by have h9 : i = g := e; have := hgl.out; omega)))
  have hs5 := hide (show p < w5.heap.size from K5.out.lt)
  have R5 := hide hR5
  have HNM := hide hNm
  clear h4 e100 hR5 o5 R3 K3 B3 Bw3 hNm
  go_wp2_with fail
  go_loopw [13] (fun i ws => ∃ (j : Nat) (xs : List TxV) (tA : Option Addr) (tC : Nat), j ≤ N ∧ i = .int .u64 (j : Int) ∧ TxsAt 164 w5 ws g h p hd r4 j xs tA tC) (fun i _ => N - (intOf i).toNat)
  case atStart => exact ⟨0, [], none, 0, by omega, rfl, rfl, rfl, R5.out, K5.out, Nat.le_refl _, World.ownsRow_nil _ _ _ _, (by simp), (by simp), Only.refl _ _⟩
  case round =>
    obtain ⟨j, xs, tA, tC, hj, rfl, hI⟩ := hrel
    by_cases hlt : j < N
    · have hI0 := hide hI
      obtain ⟨r3, hr3⟩ : ∃ r3, r3 = (Rd.rep Rd.tx j r4).2 := ⟨_, rfl⟩
      have HR3 := hide hr3
      have i1 : (j : Int) < (N : Int) := by omega
      have hu : IntKind.u64.wrap ((j : Int) + 1) = (j : Int) + 1 := by rw [IntKind.wrap_u64]; have := HNM.out; omega
      have hj9 := hide (show j ≤ 100 by have := HNM.out; omega)
      clear hI hr3
      go_wp2_with fail
      have hId := hI0.out.drew
      refine wp_region_held_drew (S := fun _ => True) (by kernel_rfl) (trivial) (fun hSA0 => ?_)
      obtain ⟨wrd, hwA⟩ : ∃ x, x = wr.drew := ⟨_, rfl⟩
      rw [← hwA] at hId ⊢
      have hIa := hide hId
      have Ka := hide hId.blk
      have Ra := hide (show RdAt 164 wrd g h r3 by rw [HR3.out]; exact hId.rd)
      clear hId hI0
      clear hwA
      (refine wpAnyH_take (i := 0) (oi := ⟨some 15, .fieldAddr 40 (.tmp 5) 1, 0, "block.go:100", #[], none⟩) (v := ?_) rfl (by kernel_rfl) (by kernel_rfl) (by kernel_rfl) (fun _ _ _ h => h) (Or.inl ⟨by rfl, fun w' hSw => ?_⟩) hSA0 ?_; rotate_left; focus (go_simp; try with_reducible rfl))
      simp only [Act.put, List.setIfInBounds_toArray, List.set_cons_zero, List.set_cons_succ]
      (refine wpAnyH_take (i := 2) (oi := ⟨some 17, .move (.tmp 4), 119, "block.go:100", #[], none⟩) (v := ?_) rfl (by kernel_rfl) (by kernel_rfl) (by kernel_rfl) (fun _ _ _ h => h) (Or.inl ⟨by rfl, fun w' hSw => ?_⟩) hSA0 ?_; rotate_left; focus (go_simp; try with_reducible rfl))
      simp only [Act.put, List.setIfInBounds_toArray, List.set_cons_zero, List.set_cons_succ]
      refine wpAnyH_ready (rs := [1, 3]) (by kernel_rfl) (by simp) ?_
      refine AllReadyH.cons rfl (fun K hK => ?_) (AllReadyH.cons rfl (fun K hK => ?_) AllReadyH.nil)
      · have c1 := cell68 Ka.out HDF.out
        go_simp
        refine hK.out _ _ (trivial) (fun hSA1 => ?_)
        clear hK K
        refine wpAnyH_ready (rs := [3]) (by kernel_rfl) (by simp) ?_
        refine AllReadyH.cons rfl (fun K hK => ?_) AllReadyH.nil
        go_simp
        refine (TRead_any wrd g h _ Ra.out).mono ?_
        rintro e wb ⟨a, rfl, had, hfb, hsm, hRb, ob⟩
        go_simp
        have Kb := hide (ob.blk Ka.out hnp.out.1)
        have HRb := hide hRb
        have HOb := hide ob
        have HAD := hide had
        have HFB := hide hfb
        have HSM := hide hsm
        have hmks := mkTxs_run wb a
        clear hRb ob had hfb hsm
        refine hK.out _ _ (trivial) (fun hSA2 => ?_)
        clear hK K
        refine wpAnyH_ready (rs := [4]) (by kernel_rfl) (by simp) ?_
        refine AllReadyH.cons rfl (fun K hK => ?_) AllReadyH.nil
        have hmk1 := hmks
        go_simp
        refine hK.out _ _ (trivial) (fun hSA3 => ?_)
        clear hK K
        refine wpAnyH_ready (rs := [5]) (by kernel_rfl) (by simp) ?_
        refine AllReadyH.cons rfl (fun K hK => ?_) AllReadyH.nil
        have hOc := HOb.out.alloc (.cells a.cells.toArray 37)
        have hrc := hOc.own hIa.out.row (fun q hq e => by have := (hIa.out.row.lt q hq).1; have h9 : q = g := e; have := hs5.out; have := hnp.out; omega)
        refine step_row rfl 20 rfl _ _ 38 rfl 37 4 64 Try.underlying38 tx_infoR (by decide) w5.heap.size (.slice tA j tC) j (xs.flatMap TxV.cells) (by rfl) hrc (Nat.le_trans hIa.out.only.size hOc.size) wb.heap.size 0 1 1 a.cells (by rfl) rfl (Blk.new wb 37 a.cells).whole (TxV.one a) (by have := hj9.out; omega) (by decide) ?_
        intro A9 c9 w9 q1 q2 q3 q4
        have hT9 := q4.blk (hOc.blk hIa.out.blk hnp.out.1) (fun e => by have := (hIa.out.row.lt _ e).1; have := hs5.out; omega)
        have hfin := hide (hIa.out.next HDF.out HR3.out HAD.out HFB.out HSM.out HOb.out (HRb.out.below (below_alloc (Below.refl _ wb) (.cells a.cells.toArray 37))) q1 q2 q3 q4 (by have := hs5.out; have := hnp.out; omega) (by have := hs5.out; have := hnp.out; omega) hs5.out hnp.out.1 hnp.out.2.1)
        have c1 := cell68 hT9 HDF.out
        have f1 := hT9.frozen 68
        clear q1 q2 q3 q4 hT9 hOc hrc
        refine hK.out _ _ (trivial) (fun hSA4 => ?_)
        clear hK K
        (refine wpAnyH_take (i := 6) (oi := ⟨some 21, .fieldAddr 40 (.tmp 5) 1, 0, "block.go:100", #[⟨0, .phase⟩, ⟨1, .phase⟩, ⟨2, .phase⟩, ⟨3, .phase⟩, ⟨4, .phase⟩, ⟨5, .phase⟩], none⟩) (v := ?_) rfl (by kernel_rfl) (by kernel_rfl) (by kernel_rfl) (fun _ _ _ h => h) (Or.inl ⟨by rfl, fun w' hSw => ?_⟩) hSA4 ?_; rotate_left; focus (go_simp; try with_reducible rfl))
        simp only [Act.put, List.setIfInBounds_toArray, List.set_cons_zero, List.set_cons_succ]
        refine wpAnyH_ready (rs := [7]) (by kernel_rfl) (by simp) ?_
        refine AllReadyH.cons rfl (fun K hK => ?_) AllReadyH.nil
        go_simp
        refine hK.out _ _ (trivial) (fun hSA5 => ?_)
        clear hK K
        refine wpAnyH_done (by kernel_rfl) ?_ _
        go_wp2_with fail
        exact ⟨⟨j + 1, xs ++ [a], A9, c9, by omega, by simp, hfin.out⟩, by simp [intOf]; omega⟩
      · go_simp
        refine (TRead_any wrd g h _ Ra.out).mono ?_
        rintro e wb ⟨a, rfl, had, hfb, hsm, hRb, ob⟩
        go_simp
        have Kb := hide (ob.blk Ka.out hnp.out.1)
        have HRb := hide hRb
        have HOb := hide ob
        have HAD := hide had
        have HFB := hide hfb
        have HSM := hide hsm
        have hmks := mkTxs_run wb a
        clear hRb ob had hfb hsm
        refine hK.out _ _ (trivial) (fun hSA1 => ?_)
        clear hK K
        refine wpAnyH_ready (rs := [1, 4]) (by kernel_rfl) (by simp) ?_
        refine AllReadyH.cons rfl (fun K hK => ?_) (AllReadyH.cons rfl (fun K hK => ?_) AllReadyH.nil)
        · have c1 := cell68 Kb.out HDF.out
          go_simp
          refine hK.out _ _ (trivial) (fun hSA2 => ?_)
          clear hK K
          refine wpAnyH_ready (rs := [4]) (by kernel_rfl) (by simp) ?_
          refine AllReadyH.cons rfl (fun K hK => ?_) AllReadyH.nil
          have hmk1 := hmks
          go_simp
          refine hK.out _ _ (trivial) (fun hSA3 => ?_)
          clear hK K
          refine wpAnyH_ready (rs := [5]) (by kernel_rfl) (by simp) ?_
          refine AllReadyH.cons rfl (fun K hK => ?_) AllReadyH.nil
          have hOc := HOb.out.alloc (.cells a.cells.toArray 37)
          have hrc := hOc.own hIa.out.row (fun q hq e => by have := (hIa.out.row.lt q hq).1; have h9 : q = g := e; have := hs5.out; have := hnp.out; omega)
          refine step_row rfl 20 rfl _ _ 38 rfl 37 4 64 Try.underlying38 tx_infoR (by decide) w5.heap.size (.slice tA j tC) j (xs.flatMap TxV.cells) (by rfl) hrc (Nat.le_trans hIa.out.only.size hOc.size) wb.heap.size 0 1 1 a.cells (by rfl) rfl (Blk.new wb 37 a.cells).whole (TxV.one a) (by have := hj9.out; omega) (by decide) ?_
          intro A9 c9 w9 q1 q2 q3 q4
          have hT9 := q4.blk (hOc.blk hIa.out.blk hnp.out.1) (fun e => by have := (hIa.out.row.lt _ e).1; have := hs5.out; omega)
          have hfin := hide (hIa.out.next HDF.out HR3.out HAD.out HFB.out HSM.out HOb.out (HRb.out.below (below_alloc (Below.refl _ wb) (.cells a.cells.toArray 37))) q1 q2 q3 q4 (by have := hs5.out; have := hnp.out; omega) (by have := hs5.out; have := hnp.out; omega) hs5.out hnp.out.1 hnp.out.2.1)
          have c1 := cell68 hT9 HDF.out
          have f1 := hT9.frozen 68
          clear q1 q2 q3 q4 hT9 hOc hrc
          refine hK.out _ _ (trivial) (fun hSA4 => ?_)
          clear hK K
          (refine wpAnyH_take (i := 6) (oi := ⟨some 21, .fieldAddr 40 (.tmp 5) 1, 0, "block.go:100", #[⟨0, .phase⟩, ⟨1, .phase⟩, ⟨2, .phase⟩, ⟨3, .phase⟩, ⟨4, .phase⟩, ⟨5, .phase⟩], none⟩) (v := ?_) rfl (by kernel_rfl) (by kernel_rfl) (by kernel_rfl) (fun _ _ _ h => h) (Or.inl ⟨by rfl, fun w' hSw => ?_⟩) hSA4 ?_; rotate_left; focus (go_simp; try with_reducible rfl))
          simp only [Act.put, List.setIfInBounds_toArray, List.set_cons_zero, List.set_cons_succ]
          refine wpAnyH_ready (rs := [7]) (by kernel_rfl) (by simp) ?_
          refine AllReadyH.cons rfl (fun K hK => ?_) AllReadyH.nil
          go_simp
          refine hK.out _ _ (trivial) (fun hSA5 => ?_)
          clear hK K
          refine wpAnyH_done (by kernel_rfl) ?_ _
          go_wp2_with fail
          exact ⟨⟨j + 1, xs ++ [a], A9, c9, by omega, by simp, hfin.out⟩, by simp [intOf]; omega⟩
        · have hmk1 := hmks
          go_simp
          refine hK.out _ _ (trivial) (fun hSA2 => ?_)
          clear hK K
          refine wpAnyH_ready (rs := [1]) (by kernel_rfl) (by simp) ?_
          refine AllReadyH.cons rfl (fun K hK => ?_) AllReadyH.nil
          have c1 := cell68 (Kb.out.alloc (.cells a.cells.toArray 37)) HDF.out
          go_simp
          refine hK.out _ _ (trivial) (fun hSA3 => ?_)
          clear hK K
          refine wpAnyH_ready (rs := [5]) (by kernel_rfl) (by simp) ?_
          refine AllReadyH.cons rfl (fun K hK => ?_) AllReadyH.nil
          have hOc := HOb.out.alloc (.cells a.cells.toArray 37)
          have hrc := hOc.own hIa.out.row (fun q hq e => by have := (hIa.out.row.lt q hq).1; have h9 : q = g := e; have := hs5.out; have := hnp.out; omega)
          refine step_row rfl 20 rfl _ _ 38 rfl 37 4 64 Try.underlying38 tx_infoR (by decide) w5.heap.size (.slice tA j tC) j (xs.flatMap TxV.cells) (by rfl) hrc (Nat.le_trans hIa.out.only.size hOc.size) wb.heap.size 0 1 1 a.cells (by rfl) rfl (Blk.new wb 37 a.cells).whole (TxV.one a) (by have := hj9.out; omega) (by decide) ?_
          intro A9 c9 w9 q1 q2 q3 q4
          have hT9 := q4.blk (hOc.blk hIa.out.blk hnp.out.1) (fun e => by have := (hIa.out.row.lt _ e).1; have := hs5.out; omega)
          have hfin := hide (hIa.out.next HDF.out HR3.out HAD.out HFB.out HSM.out HOb.out (HRb.out.below (below_alloc (Below.refl _ wb) (.cells a.cells.toArray 37))) q1 q2 q3 q4 (by have := hs5.out; have := hnp.out; omega) (by have := hs5.out; have := hnp.out; omega) hs5.out hnp.out.1 hnp.out.2.1)
          have c1 := cell68 hT9 HDF.out
          have f1 := hT9.frozen 68
          clear q1 q2 q3 q4 hT9 hOc hrc
          refine hK.out _ _ (trivial) (fun hSA4 => ?_)
          clear hK K
          (refine wpAnyH_take (i := 6) (oi := ⟨some 21, .fieldAddr 40 (.tmp 5) 1, 0, "block.go:100", #[⟨0, .phase⟩, ⟨1, .phase⟩, ⟨2, .phase⟩, ⟨3, .phase⟩, ⟨4, .phase⟩, ⟨5, .phase⟩], none⟩) (v := ?_) rfl (by kernel_rfl) (by kernel_rfl) (by kernel_rfl) (fun _ _ _ h => h) (Or.inl ⟨by rfl, fun w' hSw => ?_⟩) hSA4 ?_; rotate_left; focus (go_simp; try with_reducible rfl))
          simp only [Act.put, List.setIfInBounds_toArray, List.set_cons_zero, List.set_cons_succ]
          refine wpAnyH_ready (rs := [7]) (by kernel_rfl) (by simp) ?_
          refine AllReadyH.cons rfl (fun K hK => ?_) AllReadyH.nil
          go_simp
          refine hK.out _ _ (trivial) (fun hSA5 => ?_)
          clear hK K
          refine wpAnyH_done (by kernel_rfl) ?_ _
          go_wp2_with fail
          exact ⟨⟨j + 1, xs ++ [a], A9, c9, by omega, by simp, hfin.out⟩, by simp [intOf]; omega⟩
    · obtain rfl : N = j := by omega
      have i1 : ¬ (N : Int) < (N : Int) := by omega
      have HI := hide hI
      obtain ⟨r5, hr5⟩ : ∃ r5, r5 = (Rd.rep Rd.tx N r4).2 := ⟨_, rfl⟩
      have HR5 := hide hr5
      have HRD : Hid (RdAt 164 wr g h r5) := hide (by rw [hr5]; exact hI.rd)
      have hpb := hide (show parseB bs = if r5.err ≠ 0 then (zeroBD, r5.err) else if 0 < r5.rest.length then (zeroBD, 62) else (⟨hd, xs.map TxV.d⟩, 0) by
        unfold parseB
        simp only [Rd.blk, HHD.out, H4.out]
        rw [← hr5, ← hI.data])
      have HBr := hide (hI.only.blk B5.out (fun e => by rcases e with e | e; exact hnp.out.2.2.1 e; exact hnp.out.2.2.2.1 e))
      have Bwr := hide (show Below w.heap.size w wr from Bw5.out.trans (hI.only.below Bw5.out.size (fun i hi e => by have := hnp.out; have h8 := hgl.out; rcases e with e | e <;> omega)))
      clear hI hr5
      go_wp2_with fail
      refine (Err_any _ g h _ HRD.out).mono ?_
      rintro e w8 ⟨rfl, rfl⟩
      by_cases he : r5.err = 0
      · have hc : (r5.err == 0) = true := by simp [he]
        go_wp2_with fail
        refine (Left_any _ g h _ HRD.out).mono ?_
        rintro e w8 ⟨rfl, rfl⟩
        by_cases hl : 0 < r5.rest.length
        · have hl1 : (0 : Int) < (r5.rest.length : Int) := by omega
          have HPB := hide (show parseB bs = (zeroBD, 62) by rw [hpb.out, if_neg (fun h => h he), if_pos hl])
          go_wp2_with (refine wpList_store_bk rfl _ _ rfl w.heap.size zeroB zeroB zeroH_fine zeroH_fine (by rfl) (by rfl) HBr.out ?_; intro w9 o9 z9 b9; simp only [Act.put])
          refine bodyPost_ret (results_blk_tmp _ _ _ rfl _ _ w.heap.size zeroB zeroH_fine (by rfl) b9) rfl ⟨zeroB, by rw [HPB.out]; rfl, by rw [HPB.out]; rfl, fun w'' _ => zeroB_fine w'', zeroB_small, ?_⟩
          exact Bwr.out.trans (o9.below Bwr.out.size (fun i hi e => by have h9 : i = w.heap.size := e; omega))
        · have hl1 : ¬ (0 : Int) < (r5.rest.length : Int) := by omega
          have HPB := hide (show parseB bs = (⟨hd, xs.map TxV.d⟩, 0) by rw [hpb.out, if_neg (fun h => h he), if_neg hl])
          obtain ⟨W9, hW9⟩ : ∃ W9 : BlkV, W9 = ⟨hd, tA, N, tC, xs⟩ := ⟨_, rfl⟩
          have hld := loadBlk_run wr p 0 W9 (by rw [hW9]; exact HI.out.blk.whole) (by rw [hW9]; exact HDF.out)
          have HWF := hide (show W9.head.Fine by rw [hW9]; exact HDF.out)
          have HW9 := hide hW9
          clear hW9
          go_wp2_with (refine wpList_store_bk rfl _ _ rfl w.heap.size zeroB W9 zeroH_fine HWF.out (by rfl) (by rfl) HBr.out ?_; intro w9 o9 z9 b9; simp only [Act.put])
          refine bodyPost_ret (results_blk_tmp _ _ _ rfl _ _ w.heap.size W9 HWF.out (by rfl) b9) rfl ⟨W9, by rw [HPB.out]; rfl, by rw [HPB.out, HW9.out]; rfl, ?_, ?_, ?_⟩
          · intro w'' h9
            rw [HW9.out]
            exact ⟨HDF.out, HI.out.later ((o9.mono (G := fun i => i < w5.heap.size) (fun i _ e => by have h9 : i = w.heap.size := e; have := hnp.out; have := hs5.out; omega)).trans h9 (fun i _ h => by have h8 : i < w.heap.size := h; have := hnp.out; have := hs5.out; show i < w5.heap.size; omega)), HI.out.cap⟩
          · rw [HW9.out]
            exact ⟨by show N ≤ 1000; have := HNM.out; omega, HI.out.small⟩
          · exact Bwr.out.trans (o9.below Bwr.out.size (fun i hi e => by have h9 : i = w.heap.size := e; omega))
      · have hc : (r5.err == 0) = false := by simpa using he
        have HPB := hide (show parseB bs = (zeroBD, r5.err) by rw [hpb.out, if_pos he])
        go_wp2_with fail
        refine (Err_any _ g h _ HRD.out).mono ?_
        rintro e w8 ⟨rfl, rfl⟩
        go_wp2_with (refine wpList_store_bk rfl _ _ rfl w.heap.size zeroB zeroB zeroH_fine zeroH_fine (by rfl) (by rfl) HBr.out ?_; intro w9 o9 z9 b9; simp only [Act.put])
        refine bodyPost_ret (results_blk_tmp _ _ _ rfl _ _ w.heap.size zeroB zeroH_fine (by rfl) b9) rfl ⟨zeroB, by rw [HPB.out]; rfl, by rw [HPB.out]; rfl, fun w'' _ => zeroB_fine w'', zeroB_small, ?_⟩
        exact Bwr.out.trans (o9.below Bwr.out.size (fun i hi e => by have h9 : i = w.heap.size := e; omega))
theorem BParse_any (w : World) (A : Option Addr) (n c : Nat) (bs : List Int) (hB : Bys w A n bs) (hn : n ≤ 1000000000) :
    Calls Try.prog 33 #[.slice A n c] w (ParseBPost w bs) :=
  (BParseK_any w A n c bs hB hn).mono fun _ w' ⟨V, he, hd, hk, hs, hb⟩ => ⟨V, he, hd, hk w' (Only.refl _ _), hs, hb⟩
end Go.Proofs.Ytbpmcnfmgaolnaa
