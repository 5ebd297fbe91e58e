import Derived.Test.YtbpmcnfmgaolnaaRows
import Derived.Test.YtbpmcnfmgaolnaaWaitingLastP
import Derived.Test.YtbpmcnfmgaolnaaPk27
import Derived.Test.YtbpmcnfmgaolnaaPk1
/-
  WaitingLast: for every input the law returns true, and each argument reads behind the call as it read before. No condition.
-/
namespace Go.Proofs.Ytbpmcnfmgaolnaa.waitingLast
open Go.ChangeShapes Go.WideShapes Go.ChangeAt Go.RowKit
theorem own : ownKnob Try.prog.godebug = none := by kernel_rfl
theorem laidOut : laidOutB Try.prog = true := by kernel_rfl
set_option maxRecDepth 100000 in
theorem lifted (os : Os) (started : os.Started) (H : Type) (enc : TypeId × Value → H) :
    ReturnsInHanded {} Try.checked os 4 .any (Rows.waitingLastSpec.pre6 enc Try.prog Try.f4 Rows.waitingLastRow.domain false) (Rows.waitingLastSpec.post enc Try.prog Try.f4 false true false false) := by
  refine returnsInHanded_of_change (C := Try.checked) own started (by kernel_rfl) Try.func4
    (ChangeSpec.witness6 (enc := enc) (C := Try.checked) false ⟨#[], #[.slice none 0 0], []⟩ 8 (by kernel_rfl) (by kernel_rfl) (by kernel_rfl) (by kernel_rfl)) ?_
  intro W base args ds gs before hval0 hW hcnd _
  have hval : ∀ (j : Nat) t v, Try.f4.params[j]? = some t → args[j]? = some v → Value.okWide Try.prog W .any base t v := hval0
  have hW' := hW
  obtain ⟨p, q, hAA, hV, rfl, hfz, hnd⟩ := hW
  have hA : DataW.TrodAll enc Try.prog W 0 (fun _ => true) true Try.f4.params.toList args.toList ds p := hAA
  rw [Try.params4] at hA hval
  obtain ⟨v0, vs0, d0, ds0, p0, q0, hargs, rfl, rfl, h0, r0⟩ := trodAll_cons hA
  obtain ⟨rfl, rfl, rfl⟩ := trodAll_nil r0
  obtain rfl : args = #[v0] := by cases args; simp_all
  obtain ⟨A0, n0, c0, rfl⟩ := okWide_slice Try.underlying54 (hval 0 54 v0 rfl rfl)
  obtain ⟨xs0, hA0⟩ : ∃ xs : List Int, NumsIn W A0 n0 xs := by
    obtain ⟨fuel, hf⟩ := h0
    obtain ⟨A, n, c, xs, e, h1, h2, h3⟩ := nums_of_reading hf
    injection e with e1 e2 e3
    subst e1; subst e2; subst e3
    exact ⟨xs, h1⟩
  refine (wlast_any W A0 n0 c0 xs0 hA0).mono fun e W' ⟨he, hb⟩ => ?_
  subst he
  exact ⟨_, rfl, law_post 4 laidOut (of_decide_eq_true (by kernel_rfl)) rfl (fun ds h => by
    have h' : ds.length = 1 := h
    match ds, h' with | [_], _ => rfl) rfl Try.underlying4 hW' hb⟩
theorem proved : Rows.WaitingLastSaid :=
  OpenClaim.holds_of_wide 4 Try.f4 rfl rfl rfl rfl rfl rfl rfl ⟨rfl, rfl, rfl, rfl, rfl⟩ rfl rfl rfl rfl rfl (by kernel_rfl) Try.func4 (by kernel_rfl)
    (of_decide_eq_true (by kernel_rfl)) (by unfold Func.isWrapper; first | (rw [if_pos (by decide +kernel)]; kernel_rfl) | (rw [if_neg (by decide +kernel)]; exact ⟨rfl, rfl⟩))
    (fun os started H enc _ => lifted os started H enc)
#print axioms proved
end Go.Proofs.Ytbpmcnfmgaolnaa.waitingLast
