/-
  References: thirty-two bytes and a number, in memory and as a value.
-/
import Derived.Test.YtfloclamdpageaaCoinD
namespace Go.Proofs.Ytfloclamdpageaa
open Go.RowKit

structure RefD where
  id : List Int
  at_ : Int
def RefD.cells (r : RefD) : List Value := r.id.map (Value.int .u8) ++ [.int .u32 r.at_]
structure RefD.Fine (r : RefD) : Prop where
  len : r.id.length = 32
  byt : Byt r.id
  at0 : 0 ≤ r.at_
  at1 : r.at_ < 4294967296
def RefD.bytes (r : RefD) : List Int := r.id ++ dig r.at_.toNat 4
theorem RefD.cells_len {r : RefD} (h : r.Fine) : r.cells.length = 33 := by simp [RefD.cells, h.len]
theorem RefD.one (r : RefD) : ∀ v ∈ r.cells, v.oneCell' = true := by
  intro v hv
  simp only [RefD.cells, List.mem_append, List.mem_map, List.mem_singleton] at hv
  rcases hv with ⟨x, _, rfl⟩ | rfl <;> rfl
theorem RefD.cells_inj {a b : RefD} (ha : a.Fine) (hb : b.Fine) (h : a.cells = b.cells) : a = b := by
  obtain ⟨x, n⟩ := a
  obtain ⟨y, m⟩ := b
  have hl : (x.map (Value.int .u8)).length = (y.map (Value.int .u8)).length := by
    have h1 := ha.len
    have h2 := hb.len
    simp only at h1 h2
    simp [h1, h2]
  obtain ⟨h1, h2⟩ := List.append_inj h hl
  have e1 : x = y := by
    have hi : Function.Injective (Value.int .u8) := fun a b h => by injection h
    exact (List.map_inj_right (fun a b h => hi h)).1 h1
  have e2 : n = m := by simpa using h2
  rw [e1, e2]
/-! ### A struct of two or three parts, built -/
section
variable {P : Program}
theorem run_build2 (t : TypeId) (f0 f1 : Field) (k n : Nat) (hu : P.underlying t = some (.struct #[f0, f1])) (ho0 : f0.offset = 0) (ho1 : f1.offset = k)
    (hs0 : (P.info? f0.type).map (·.size) = some k) (hs1 : (P.info? f1.type).map (·.size) = some n) (hz : (P.info? t).map (fun i => i.zero.map (fun z => z.cells.size)) = some (some (k + n)))
    (v0 v1 : Value) (vs0 vs1 : List Value) (h0 : v0.cells = vs0.toArray) (h1 : v1.cells = vs1.toArray) (l0 : vs0.length = k) (l1 : vs1.length = n) (w : World) :
    (Instr.build t #[(0, v0), (1, v1)]).run P w = .ok (.agg (vs0 ++ vs1).toArray) w := by
  obtain ⟨i, z, hi, hzz, zs, hzs, hzl⟩ := zero_parts hz
  unfold Instr.build
  have hm : (#[f0, f1].mapM fun f => do pure (f.offset, ← sizeOf f.type) : Sem (Array (Nat × Nat))).run P w = .ok #[(0, k), (k, n)] w := by
    simp [ho0, ho1, run_size hs0, run_size hs1]
  have hf : Instr.fill (fun j => #[(0, k), (k, n)][j]?) zs.toArray [(0, v0), (1, v1)] = some (vs0 ++ vs1).toArray := by
    rw [fill_one _ zs 0 v0 vs0 0 _ (by rw [l0]; rfl) h0 (by omega)]
    rw [fill_one _ (lay zs 0 vs0) 1 v1 vs1 k _ (by rw [l1]; rfl) h1 (by rw [lay_length]; omega)]
    rw [Instr.fill]
    congr 2
    rw [lay_eq _ _ _ (by rw [lay_length]; omega), lay_eq zs 0 vs0 (by omega)]
    have e1 : (zs.take 0 ++ vs0 ++ zs.drop (0 + vs0.length)).take k = vs0 := by rw [List.take_zero, List.nil_append, List.take_append_of_le_length (by omega), List.take_of_length_le (by omega)]
    have e2 : (zs.take 0 ++ vs0 ++ zs.drop (0 + vs0.length)).drop (k + vs1.length) = [] := by
      apply List.drop_of_length_le
      simp
      omega
    rw [e1, e2, List.append_nil]
  simp only [Sem.run_bind, run_zero hi hzz, Result.andThen_ok, run_underlying hu, hm, hzs]
  simp only [hf]
  simp
theorem run_build3 (t : TypeId) (f0 f1 f2 : Field) (k n m : Nat) (hu : P.underlying t = some (.struct #[f0, f1, f2])) (ho0 : f0.offset = 0) (ho1 : f1.offset = k) (ho2 : f2.offset = k + n)
    (hs0 : (P.info? f0.type).map (·.size) = some k) (hs1 : (P.info? f1.type).map (·.size) = some n) (hs2 : (P.info? f2.type).map (·.size) = some m) (hz : (P.info? t).map (fun i => i.zero.map (fun z => z.cells.size)) = some (some (k + n + m)))
    (v0 v1 v2 : Value) (vs0 vs1 vs2 : List Value) (h0 : v0.cells = vs0.toArray) (h1 : v1.cells = vs1.toArray) (h2 : v2.cells = vs2.toArray) (l0 : vs0.length = k) (l1 : vs1.length = n) (l2 : vs2.length = m) (w : World) :
    (Instr.build t #[(0, v0), (1, v1), (2, v2)]).run P w = .ok (.agg (vs0 ++ vs1 ++ vs2).toArray) w := by
  obtain ⟨i, z, hi, hzz, zs, hzs, hzl⟩ := zero_parts hz
  unfold Instr.build
  have hm : (#[f0, f1, f2].mapM fun f => do pure (f.offset, ← sizeOf f.type) : Sem (Array (Nat × Nat))).run P w = .ok #[(0, k), (k, n), (k + n, m)] w := by
    simp [ho0, ho1, ho2, run_size hs0, run_size hs1, run_size hs2]
  have hf : Instr.fill (fun j => #[(0, k), (k, n), (k + n, m)][j]?) zs.toArray [(0, v0), (1, v1), (2, v2)] = some (vs0 ++ vs1 ++ vs2).toArray := by
    rw [fill_one _ zs 0 v0 vs0 0 _ (by rw [l0]; rfl) h0 (by omega)]
    rw [fill_one _ (lay zs 0 vs0) 1 v1 vs1 k _ (by rw [l1]; rfl) h1 (by rw [lay_length]; omega)]
    rw [fill_one _ (lay (lay zs 0 vs0) k vs1) 2 v2 vs2 (k + n) _ (by rw [l2]; rfl) h2 (by rw [lay_length, lay_length]; omega)]
    rw [Instr.fill]
    congr 2
    rw [lay_eq _ _ _ (by rw [lay_length, lay_length]; omega), lay_eq (lay zs 0 vs0) k vs1 (by rw [lay_length]; omega), lay_eq zs 0 vs0 (by omega)]
    have e1 : (zs.take 0 ++ vs0 ++ zs.drop (0 + vs0.length)).take k = vs0 := by rw [List.take_zero, List.nil_append, List.take_append_of_le_length (by omega), List.take_of_length_le (by omega)]
    rw [e1]
    have e2 : (vs0 ++ vs1 ++ (zs.take 0 ++ vs0 ++ zs.drop (0 + vs0.length)).drop (k + vs1.length)).take (k + n) = vs0 ++ vs1 := by
      rw [List.take_append, List.take_of_length_le (by simp; omega)]
      have : k + n - (vs0 ++ vs1).length = 0 := by simp; omega
      rw [this, List.take_zero, List.append_nil]
    have e3 : (vs0 ++ vs1 ++ (zs.take 0 ++ vs0 ++ zs.drop (0 + vs0.length)).drop (k + vs1.length)).drop (k + n + vs2.length) = [] := by
      apply List.drop_of_length_le
      simp
      omega
    rw [e2, e3, List.append_nil]
  simp only [Sem.run_bind, run_zero hi hzz, Result.andThen_ok, run_underlying hu, hm, hzs]
  simp only [hf]
  simp
end
theorem wfu32 {n : Int} (h : (Lit.int .u32 n).wf = true) : 0 ≤ n ∧ n ≤ 4294967295 := by
  simp [Lit.wf, IntKind.min, IntKind.max, IntKind.signed, IntKind.bits] at h
  omega
end Go.Proofs.Ytfloclamdpageaa
