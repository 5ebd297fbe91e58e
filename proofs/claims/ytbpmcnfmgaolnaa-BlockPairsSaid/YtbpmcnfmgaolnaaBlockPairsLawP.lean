import Derived.Test.YtbpmcnfmgaolnaaRows
import Derived.Test.YtbpmcnfmgaolnaaBlockPairsP
import Derived.Test.YtbpmcnfmgaolnaaPk24
import Derived.Test.YtbpmcnfmgaolnaaPk1
/-
  BlockPairs: for every input the law returns true, and each argument reads behind the call as it read before. No condition.
-/
namespace Go.Proofs.Ytbpmcnfmgaolnaa.blockPairs
open Go.ChangeShapes Go.WideShapes Go.ChangeAt Go.RowKit
theorem own : ownKnob Try.prog.godebug = none := by kernel_rfl
theorem laidOut : laidOutB Try.prog = true := by kernel_rfl
set_option maxRecDepth 100000 in
theorem lifted (os : Os) (started : os.Started) (H : Type) (enc : TypeId × Value → H) :
    ReturnsInHanded {} Try.checked os 10 .any (Rows.blockPairsSpec.pre6 enc Try.prog Try.f10 Rows.blockPairsRow.domain false) (Rows.blockPairsSpec.post enc Try.prog Try.f10 false true false false) := by
  refine returnsInHanded_of_change (C := Try.checked) own started (by kernel_rfl) Try.func10
    (ChangeSpec.witness6 (enc := enc) (C := Try.checked) false ⟨#[], #[.slice none 0 0], []⟩ 8 (by kernel_rfl) (by kernel_rfl) (by kernel_rfl) (by kernel_rfl)) ?_
  intro W base args ds gs before hval0 hW hcnd _
  have hval : ∀ (j : Nat) t v, Try.f10.params[j]? = some t → args[j]? = some v → Value.okWide Try.prog W .any base t v := hval0
  have hW' := hW
  obtain ⟨p, q, hAA, hV, rfl, hfz, hnd⟩ := hW
  have hA : DataW.TrodAll enc Try.prog W 0 (fun _ => true) true Try.f10.params.toList args.toList ds p := hAA
  rw [Try.params10] at hA hval
  obtain ⟨v0, vs0, d0, ds0, p0, q0, hargs, rfl, rfl, h0, r0⟩ := trodAll_cons hA
  obtain ⟨rfl, rfl, rfl⟩ := trodAll_nil r0
  obtain rfl : args = #[v0] := by cases args; simp_all
  obtain ⟨A0, n0, c0, rfl⟩ := okWide_slice Try.underlying65 (hval 0 65 v0 rfl rfl)
  obtain ⟨xs0, hX0, hl0, hm0⟩ : ∃ xs : List (List Int), HashesIn W A0 n0 xs ∧ n0 ≤ c0 ∧ c0 ≤ maxLen := by
    obtain ⟨fuel, hf⟩ := h0
    obtain ⟨A, n, c, xs, e, h1, h2, h3⟩ := hashes_of_reading hf
    injection e with e1 e2 e3
    subst e1; subst e2; subst e3
    exact ⟨xs, h1, h2, h3⟩
  refine (blockpairs_any W A0 n0 c0 xs0 hX0 hl0).mono fun e W' ⟨he, hb⟩ => ?_
  subst he
  exact ⟨_, rfl, law_post 4 laidOut (of_decide_eq_true (by kernel_rfl)) rfl (fun ds h => by
    have h' : ds.length = 1 := h
    match ds, h' with | [_], _ => rfl) rfl Try.underlying4 hW' hb⟩
theorem proved : Rows.BlockPairsSaid :=
  OpenClaim.holds_of_wide 10 Try.f10 rfl rfl rfl rfl rfl rfl rfl ⟨rfl, rfl, rfl, rfl, rfl⟩ rfl rfl rfl rfl rfl (by kernel_rfl) Try.func10 (by kernel_rfl)
    (of_decide_eq_true (by kernel_rfl)) (by unfold Func.isWrapper; first | (rw [if_pos (by decide +kernel)]; kernel_rfl) | (rw [if_neg (by decide +kernel)]; exact ⟨rfl, rfl⟩))
    (fun os started H enc _ => lifted os started H enc)
#print axioms proved
end Go.Proofs.Ytbpmcnfmgaolnaa.blockPairs
