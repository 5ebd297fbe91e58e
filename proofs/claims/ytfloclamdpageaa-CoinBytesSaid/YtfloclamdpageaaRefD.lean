/-
  References: thirty-two bytes and a number, in memory and as a value.
-/
import Derived.Test.YtfloclamdpageaaCoinD
namespace Go.Proofs.Ytfloclamdpageaa
open Go.RowKit

structure RefD where
  id : List Int
  at_ : Int
def RefD.cells (r : RefD) : List Value := r.id.map (Value.int .u8) ++ [.int .u32 r.at_]
structure RefD.Fine (r : RefD) : Prop where
  len : r.id.length = 32
  byt : Byt r.id
  at0 : 0 ≤ r.at_
  at1 : r.at_ < 4294967296
def RefD.bytes (r : RefD) : List Int := r.id ++ dig r.at_.toNat 4
theorem RefD.cells_len {r : RefD} (h : r.Fine) : r.cells.length = 33 := by simp [RefD.cells, h.len]
theorem RefD.one (r : RefD) : ∀ v ∈ r.cells, v.oneCell' = true := by
  intro v hv
  simp only [RefD.cells, List.mem_append, List.mem_map, List.mem_singleton] at hv
  rcases hv with ⟨x, _, rfl⟩ | rfl <;> rfl
theorem RefD.cells_inj {a b : RefD} (ha : a.Fine) (hb : b.Fine) (h : a.cells = b.cells) : a = b := by
  obtain ⟨x, n⟩ := a
  obtain ⟨y, m⟩ := b
  have hl : (x.map (Value.int .u8)).length = (y.map (Value.int .u8)).length := by
    have h1 := ha.len
    have h2 := hb.len
    simp only at h1 h2
    simp [h1, h2]
  obtain ⟨h1, h2⟩ := List.append_inj h hl
  have e1 : x = y := by
    have hi : Function.Injective (Value.int .u8) := fun a b h => by injection h
    exact (List.map_inj_right (fun a b h => hi h)).1 h1
  have e2 : n = m := by simpa using h2
  rw [e1, e2]
theorem wfu32 {n : Int} (h : (Lit.int .u32 n).wf = true) : 0 ≤ n ∧ n ≤ 4294967295 := by
  simp [Lit.wf, IntKind.min, IntKind.max, IntKind.signed, IntKind.bits] at h
  omega
end Go.Proofs.Ytfloclamdpageaa
