/-
  Bytes as a string.
-/
import Derived.Test.YtfloclamdpageaaRefSixD
import Derived.Laws.BytesString
namespace Go.Proofs.Ytfloclamdpageaa
open Go.RowKit

theorem Below.undrew {w w' : World} (h : Below w.drew.heap.size w.drew w') : Below w.heap.size w w' := ⟨h.os, h.tape, h.output, h.size, h.block⟩
theorem Below.undrew' {w w' v : World} (h : Below v.heap.size v w') (hv : v = w ∨ v = w.drew ∨ v = w.drew.drew := by first | exact .inl rfl | exact .inr (.inl rfl) | exact .inr (.inr rfl)) : Below w.heap.size w w' := by
  rcases hv with rfl | rfl | rfl
  · exact h
  · exact ⟨h.os, h.tape, h.output, h.size, h.block⟩
  · exact ⟨h.os, h.tape, h.output, h.size, h.block⟩
def ba (bs : List Int) : ByteArray := bs.foldl (fun r n => r.push (UInt8.ofNat n.toNat)) ByteArray.empty
theorem loadBytes (P : Program) (w : World) (b off : Nat) : ∀ (bs : List Int), (∀ (j : Nat) (v : Int), bs[j]? = some v → w.cell? ⟨b, off + j, none⟩ = some (.int .u8 v)) → (loadCells ⟨b, off, none⟩ bs.length).run P w = .ok (bs.map (Value.int .u8)).toArray w := by
  intro bs h
  have := run_loadCells_list (P := P) (w := w) ⟨b, off, none⟩ (bs.map (Value.int .u8)) (fun j v hv => by
    rw [Addr.add_mid]
    simp only [List.getElem?_map] at hv
    cases hg : bs[j]? with
    | none => rw [hg] at hv; cases hv
    | some x => rw [hg] at hv; injection hv with hv; subst hv; exact h j x hg)
  simpa using this
theorem run_str (w : World) (A : Option Addr) (n c : Nat) (bs : List Int) (hB : Bys w A n bs) : (convert 22 9 (.slice A n c)).run Try.prog w = .ok (.string (ba bs)) w := by
  rw [run_convert_bytes_string w _ _ _ A n c Try.underlying22 Try.underlying5 Try.underlying9]
  have hl := hB.1
  rcases Nat.eq_zero_or_pos n with h0 | h0
  · subst h0
    obtain rfl : bs = [] := List.eq_nil_of_length_eq_zero hl
    cases A with
    | none => simp [Conv.bytesToString, ba]
    | some a => exact run_bytesToString w a 0 c [] (by simp [loadCells, loadCellsFrom])
  · obtain ⟨b, off, rfl, hc⟩ := hB.2.2 h0
    subst hl
    exact run_bytesToString w _ _ c bs (loadBytes _ w b off bs hc)
theorem ba_data (bs : List Int) : (ba bs).data.toList = bs.map fun n => UInt8.ofNat n.toNat := by
  have key : ∀ (l : List Int) (s : ByteArray), (l.foldl (fun r n => r.push (UInt8.ofNat n.toNat)) s).data.toList = s.data.toList ++ l.map fun n => UInt8.ofNat n.toNat := by
    intro l
    induction l with
    | nil => intro s; simp
    | cons x l ih => intro s; rw [List.foldl_cons, ih]; simp [ByteArray.push]
  rw [ba, key]; simp [ByteArray.empty, ByteArray.emptyWithCapacity]; rfl
theorem ba_inj (a b : List Int) (ha : Byt a) (hb : Byt b) (h : ba a = ba b) : a = b := by
  have h1 := ba_data a
  rw [h, ba_data] at h1
  clear h
  induction a generalizing b with
  | nil => cases b with
    | nil => rfl
    | cons y b => simp at h1
  | cons x a ih => cases b with
    | nil => simp at h1
    | cons y b =>
      simp only [List.map_cons, List.cons.injEq] at h1
      have hx := ha x (by simp)
      have hy := hb y (by simp)
      have e : (UInt8.ofNat y.toNat).toNat = (UInt8.ofNat x.toNat).toNat := by rw [h1.1]
      simp only [UInt8.toNat_ofNat'] at e
      have : x = y := by omega
      rw [this, ih b (fun z hz => ha z (by simp [hz])) (fun z hz => hb z (by simp [hz])) h1.2]
end Go.Proofs.Ytfloclamdpageaa
