/-
  The chapter's example, as it is made; its name.
-/
import Derived.Test.YtfloclamdpageaaTxG
import Derived.KernelRfl
namespace Go.Proofs.Ytfloclamdpageaa
open Go.RowKit

def baseI (gl : Nat) : InV := ⟨nullR, some ⟨gl, 0, none⟩, 2, 2, [1, 2], 0⟩
def baseO (gk : Nat) : OutV := ⟨5, some ⟨gk, 0, none⟩, 1, 1, [81]⟩
def baseV (gl gi gk go : Nat) : TxV := ⟨1, some ⟨gi, 0, none⟩, 1, 1, [baseI gl], some ⟨go, 0, none⟩, 1, 1, [baseO gk], 0⟩
def baseD : TxD := ⟨1, [⟨nullR, [1, 2], 0⟩], [⟨5, [81]⟩], 0⟩
theorem baseV_d (gl gi gk go : Nat) : (baseV gl gi gk go).d = baseD := rfl
theorem baseV_small (gl gi gk go : Nat) : (baseV gl gi gk go).Small := ⟨by simp [baseV], by simp [baseV], by simp [baseV, baseI], by simp [baseV, baseO]⟩
/-- The example, laid out in blocks of its own. -/
structure BaseAt (w0 w : World) (gl gi gk go : Nat) : Prop where
  below : Below w0.heap.size w0 w
  l : Blk w gl 5 (bcs [1, 2])
  i : Blk w gi 68 (baseI gl).cells
  k : Blk w gk 5 (bcs [81])
  o : Blk w go 24 (baseO gk).cells
  s1 : w0.heap.size < gl
  s2 : gl < gi
  s3 : gi < gk
  s4 : gk < go
theorem byt12 : Byt [1, 2] := by intro x hx; simp at hx; omega
theorem byt81 : Byt [81] := by intro x hx; simp at hx; omega
theorem blk_at (w : World) (t : TypeId) (cs : List Value) (k : Nat) (h : w.heap.size = k) : Blk (w.alloc (.cells cs.toArray t)) k t cs := h ▸ Blk.new w t cs
theorem BaseAt.fine {w0 w : World} {gl gi gk go : Nat} (h : BaseAt w0 w gl gi gk go) : (baseV gl gi gk go).Fine w := by
  refine ⟨(by decide : (0 : Int) ≤ 1 ∧ (1 : Int) ≤ 4294967295), (by decide : (0 : Int) ≤ 0 ∧ (0 : Int) ≤ 4294967295), ⟨rfl, fun a ha => ?_, fun _ => ⟨gi, 0, rfl, fun j a ha => ?_⟩⟩, ⟨rfl, fun a ha => ?_, fun _ => ⟨go, 0, rfl, fun j a ha => ?_⟩⟩, Nat.le_refl _, Nat.le_refl _⟩
  · obtain rfl : a = baseI gl := by simpa [baseV] using ha
    exact ⟨nullR_fine, Bys.of_blk h.l byt12, Nat.le_refl _, (by decide : (0 : Int) ≤ 0 ∧ (0 : Int) ≤ 4294967295)⟩
  · rcases j with _ | j
    · obtain rfl : baseI gl = a := by simpa [baseV] using ha
      simpa using h.i.whole
    · simp [baseV] at ha
  · obtain rfl : a = baseO gk := by simpa [baseV] using ha
    exact ⟨(by decide : (-9223372036854775808 : Int) ≤ 5 ∧ (5 : Int) ≤ 9223372036854775807), Bys.of_blk h.k byt81, Nat.le_refl _⟩
  · rcases j with _ | j
    · obtain rfl : baseO gk = a := by simpa [baseV] using ha
      simpa using h.o.whole
    · simp [baseV] at ha
theorem BaseAt.under {w0 w w' : World} {gl gi gk go : Nat} (h : BaseAt w0 w gl gi gk go) (hb : Below w.heap.size w w') : BaseAt w0 w' gl gi gk go :=
  ⟨Below.then_ h.below hb, h.l.under hb, h.i.under hb, h.k.under hb, h.o.under hb, h.s1, h.s2, h.s3, h.s4⟩
theorem mkIn_null (A : Option Addr) (n c : Nat) (bs : List Int) (w : World) : (mkIn #[(0, .agg nullR.cells.toArray), (1, .slice A n c)]).run Try.prog w = .ok (.agg (⟨nullR, A, n, c, bs, 0⟩ : InV).cells.toArray) w := by kernel_rfl
set_option maxRecDepth 100000 in
theorem base_sha : sha2 baseD.bytes = [189, 232, 236, 4, 83, 127, 188, 155, 191, 55, 160, 220, 98, 171, 214, 88, 12, 86, 73, 47, 189, 128, 24, 149, 199, 46, 23, 131, 87, 73, 23, 143] := by kernel_rfl
attribute [local go_sem ↓] loadIn_fold loadRef_fold loadTx_fold eqlRef_fold neqRef_fold mkRef_fold mkIn_fold mkIns_fold
attribute [local go_sem] mkRef_null
set_option maxHeartbeats 4000000 in
set_option maxRecDepth 100000 in
theorem base_any (w : World) : Calls Try.prog 39 #[] w fun e w' => ∃ gl gi gk go, e = .returned (.agg (baseV gl gi gk go).cells.toArray) ∧ BaseAt w w' gl gi gk go := by
  have hmi := fun (A : Option Addr) (w : World) => mkIn_null A 2 2 [1, 2] w
  have hms := fun (w1 : World) => mkIns_run w1 (⟨nullR, some ⟨w.heap.size + 1, 0, none⟩, 2, 2, [1, 2], 0⟩ : InV) nullR_fine
  go_enter Try.func39, Try.ntmps39
  go_wp2_with fail
  have BR := (((((blk_at w 65 (baseV (w.heap.size + 1) (w.heap.size + 2) (w.heap.size + 3) (w.heap.size + 4)).cells w.heap.size rfl).alloc (.cells (bcs [1, 2]).toArray 5)).alloc (.cells (baseI (w.heap.size + 1)).cells.toArray 68)).alloc (.cells (bcs [81]).toArray 5)).alloc (.cells (baseO (w.heap.size + 3)).cells.toArray 24))
  refine bodyPost_ret (results_cell_blk rfl _ _ w.heap.size 65 _ _ (by rfl) BR Try.underlying65 rfl (by exact isTx)) rfl ?_
  refine ⟨w.heap.size + 1, w.heap.size + 2, w.heap.size + 3, w.heap.size + 4, rfl, ?_, ?_, ?_, ?_, ?_, by omega, by omega, by omega, by omega⟩
  · exact below_alloc (below_alloc (below_alloc (below_alloc (below_alloc (Below.refl _ _) _) _) _) _) _
  · exact (((blk_at _ 5 (bcs [1, 2]) (w.heap.size + 1) (by simp)).alloc _).alloc _).alloc _
  · exact ((blk_at _ 68 (baseI (w.heap.size + 1)).cells (w.heap.size + 2) (by simp)).alloc _).alloc _
  · exact (blk_at _ 5 (bcs [81]) (w.heap.size + 3) (by simp)).alloc _
  · exact blk_at _ 24 (baseO (w.heap.size + 3)).cells (w.heap.size + 4) (by simp)
end Go.Proofs.Ytfloclamdpageaa
