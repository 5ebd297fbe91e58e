/-
  Transactions as bytes, and how they are read: plain functions, no program in sight.
-/
import Derived.Test.YtfloclamdpageaaCoinT
namespace Go.Proofs.Ytfloclamdpageaa
open Go.RowKit

structure InD where
  ref : RefD
  unlock : List Int
  order : Int
def InD.bytes (a : InD) : List Int := a.ref.bytes ++ txt a.unlock ++ dig a.order.toNat 4
structure TxD where
  version : Int
  ins : List InD
  outs : List OutD
  until_ : Int
def TxD.bytes (t : TxD) : List Int := dig t.version.toNat 4 ++ cnt t.ins.length ++ t.ins.flatMap InD.bytes ++ cnt t.outs.length ++ t.outs.flatMap OutD.bytes ++ dig t.until_.toNat 4
/-! ### In memory -/
structure InV where
  ref : RefD
  A : Option Addr
  n : Nat
  c : Nat
  bs : List Int
  order : Int
def InV.cells (a : InV) : List Value := a.ref.cells ++ [.slice a.A a.n a.c, .int .u32 a.order]
def InV.d (a : InV) : InD := ⟨a.ref, a.bs, a.order⟩
structure InV.Fine (w : World) (a : InV) : Prop where
  ref : a.ref.Fine
  bys : Bys w a.A a.n a.bs
  cap : a.n ≤ a.c
  order : 0 ≤ a.order ∧ a.order ≤ 4294967295
abbrev InsIn (w : World) (A : Option Addr) (n : Nat) (xs : List InV) : Prop := RowsIn InV.cells 35 InV.Fine w A n xs
theorem InV.Fine.below {w w' : World} {a : InV} (h : a.Fine w) (hb : Below w.heap.size w w') : a.Fine w' := ⟨h.ref, h.bys.below hb, h.cap, h.order⟩
theorem InsIn.below' {w w' : World} {A : Option Addr} {n : Nat} {xs : List InV} (h : InsIn w A n xs) (hb : Below w.heap.size w w') : InsIn w' A n xs := h.below hb fun _ h => h.below hb
structure TxV where
  version : Int
  iA : Option Addr
  iN : Nat
  iC : Nat
  ins : List InV
  oA : Option Addr
  oN : Nat
  oC : Nat
  outs : List OutV
  until_ : Int
def TxV.cells (t : TxV) : List Value := [.int .u32 t.version, .slice t.iA t.iN t.iC, .slice t.oA t.oN t.oC, .int .u32 t.until_]
def TxV.d (t : TxV) : TxD := ⟨t.version, t.ins.map InV.d, t.outs.map OutV.d, t.until_⟩
structure TxV.Fine (w : World) (t : TxV) : Prop where
  version : 0 ≤ t.version ∧ t.version ≤ 4294967295
  until_ : 0 ≤ t.until_ ∧ t.until_ ≤ 4294967295
  ins : InsIn w t.iA t.iN t.ins
  outs : OutsIn w t.oA t.oN t.outs
  icap : t.iN ≤ t.iC
  ocap : t.oN ≤ t.oC
/-- Not too great. -/
structure TxV.Small (t : TxV) : Prop where
  ins : t.iN ≤ 1000
  outs : t.oN ≤ 1000
  unlock : ∀ a ∈ t.ins, a.n ≤ 10000
  lock : ∀ a ∈ t.outs, a.n ≤ 10000
theorem TxV.Fine.below {w w' : World} {t : TxV} (h : t.Fine w) (hb : Below w.heap.size w w') : t.Fine w' := ⟨h.version, h.until_, h.ins.below' hb, h.outs.below' hb, h.icap, h.ocap⟩
theorem InV.one (a : InV) : ∀ v ∈ a.cells, v.oneCell' = true := by
  intro v hv
  rcases List.mem_append.1 hv with h | h
  · exact a.ref.one v h
  · simp only [List.mem_cons, List.mem_nil_iff, or_false] at h
    rcases h with rfl | rfl <;> rfl
theorem InV.cells_len {a : InV} (h : a.ref.Fine) : a.cells.length = 35 := by simp [InV.cells, RefD.cells_len h]
/-! ### How long -/
theorem InV.bytes_len (a : InV) (h : a.ref.Fine) (hl : a.bs.length ≤ 10000) : a.d.bytes.length ≤ 10100 := by
  have h1 := txt_len a.bs
  simp only [InV.d, InD.bytes, RefD.bytes, List.length_append, dig_length, h.len]
  omega
theorem OutV.bytes_len (a : OutV) (hl : a.bs.length ≤ 10000) : a.d.bytes.length ≤ 10100 := by
  have h1 := txt_len a.bs
  simp only [OutV.d, OutD.bytes, List.length_append, dig_length]
  omega
theorem flatMap_len {α : Type} (f : α → List Int) (l : List α) (k : Nat) (h : ∀ a ∈ l, (f a).length ≤ k) : (l.flatMap f).length ≤ k * l.length := by
  induction l with
  | nil => simp
  | cons a l ih =>
    have h1 := ih (fun b hb => h b (by simp [hb]))
    have h2 := h a (by simp)
    simp only [List.flatMap_cons, List.length_append, List.length_cons, Nat.mul_add, Nat.mul_one]
    omega
theorem flatMap_take {α : Type} (f : α → List Int) (l : List α) (j : Nat) (a : α) (h : l[j]? = some a) : (l.take (j + 1)).flatMap f = (l.take j).flatMap f ++ f a := by
  rw [List.take_add_one, h]; simp
theorem TxD.bytes_eq (t : TxV) : t.d.bytes = dig t.version.toNat 4 ++ cnt t.ins.length ++ (t.ins.flatMap fun a => a.d.bytes) ++ cnt t.outs.length ++ (t.outs.flatMap fun a => a.d.bytes) ++ dig t.until_.toNat 4 := by
  simp [TxV.d, TxD.bytes, List.flatMap_map]
end Go.Proofs.Ytfloclamdpageaa
