import Derived.Test.YtjnpkcabkccaoaaRows
import Derived.Test.YtjnpkcabkccaoaaTableMergesP
import Derived.Test.YtjnpkcabkccaoaaOpenPairP
import Derived.Test.YtjnpkcabkccaoaaPk1
/-
  TableMerges: for every input the law returns true, and each argument reads behind the call as it read before. No condition.
-/
namespace Go.Proofs.Ytjnpkcabkccaoaa.tableMerges
open Go.ChangeShapes Go.WideShapes Go.ChangeAt Go.RowKit
theorem own : ownKnob Try.prog.godebug = none := by kernel_rfl
theorem laidOut : laidOutB Try.prog = true := by kernel_rfl
set_option maxRecDepth 100000 in
theorem lifted (os : Os) (started : os.Started) (H : Type) (enc : TypeId × Value → H) :
    ReturnsInHanded {} Try.checked os 10 .any (Rows.tableMergesSpec.pre6 enc Try.prog Try.f10 Rows.tableMergesRow.domain false) (Rows.tableMergesSpec.post enc Try.prog Try.f10 false true false false) := by
  refine returnsInHanded_of_change (C := Try.checked) own started (by kernel_rfl) Try.func10
    (ChangeSpec.witness6 (enc := enc) (C := Try.checked) false ⟨#[], #[.slice none 0 0, .slice none 0 0], []⟩ 8 (by kernel_rfl) (by kernel_rfl) (by kernel_rfl) (by kernel_rfl)) ?_
  intro W base args ds gs before hval0 hW hcnd _
  have hval : ∀ (j : Nat) t v, Try.f10.params[j]? = some t → args[j]? = some v → Value.okWide Try.prog W .any base t v := hval0
  have hW' := hW
  obtain ⟨p, q, hAA, hV, rfl, hfz, hnd⟩ := hW
  have hA : DataW.TrodAll enc Try.prog W 0 (fun _ => true) true Try.f10.params.toList args.toList ds p := hAA
  rw [Try.params10] at hA hval
  obtain ⟨v0, vs0, d0, ds0, p0, q0, hargs, rfl, rfl, h0, r0⟩ := trodAll_cons hA
  obtain ⟨v1, vs1, d1, ds1, p1, q1, rfl, rfl, rfl, h1, r1⟩ := trodAll_cons r0
  obtain ⟨rfl, rfl, rfl⟩ := trodAll_nil r1
  obtain rfl : args = #[v0, v1] := by cases args; simp_all
  obtain ⟨A0, n0, c0, rfl⟩ := okWide_slice Try.underlying94 (hval 0 94 v0 rfl rfl)
  obtain ⟨xs0, hX0, hc0⟩ : ∃ xs : List PairV, PairsIn W A0 n0 xs ∧ n0 ≤ c0 := by
    obtain ⟨fuel, hf⟩ := h0
    obtain ⟨A, n, c, xs, e, h1, h2, h3⟩ := pairs_of_reading hf
    injection e with e1 e2 e3
    subst e1; subst e2; subst e3
    exact ⟨xs, h1, h2⟩
  obtain ⟨A1, n1, c1, rfl⟩ := okWide_slice Try.underlying94 (hval 1 94 v1 rfl rfl)
  obtain ⟨xs1, hX1, hc1⟩ : ∃ xs : List PairV, PairsIn W A1 n1 xs ∧ n1 ≤ c1 := by
    obtain ⟨fuel, hf⟩ := h1
    obtain ⟨A, n, c, xs, e, h1, h2, h3⟩ := pairs_of_reading hf
    injection e with e1 e2 e3
    subst e1; subst e2; subst e3
    exact ⟨xs, h1, h2⟩
  refine (tmerges_any W A0 A1 n0 c0 n1 c1 xs0 xs1 hX0 hc0 hX1 hc1).mono fun e W' ⟨he, hb⟩ => ?_
  subst he
  exact ⟨_, rfl, law_post 4 laidOut (of_decide_eq_true (by kernel_rfl)) rfl (fun ds h => by
    have h' : ds.length = 2 := h
    match ds, h' with | [_, _], _ => rfl) rfl Try.underlying4 hW' hb⟩
theorem proved : Rows.TableMergesSaid :=
  OpenClaim.holds_of_wide 10 Try.f10 rfl rfl rfl rfl rfl rfl rfl ⟨rfl, rfl, rfl, rfl, rfl⟩ rfl rfl rfl rfl rfl (by kernel_rfl) Try.func10 (by kernel_rfl)
    (of_decide_eq_true (by kernel_rfl)) (by unfold Func.isWrapper; first | (rw [if_pos (by decide +kernel)]; kernel_rfl) | (rw [if_neg (by decide +kernel)]; exact ⟨rfl, rfl⟩))
    (fun os started H enc _ => lifted os started H enc)
#print axioms proved
end Go.Proofs.Ytjnpkcabkccaoaa.tableMerges
