/-
  TableRuns: for every input the law returns true, and each argument reads behind the call as it read before. No condition.
-/
import Derived.Test.YtjnpkcabkccaoaaGreatRows
import Derived.Test.YtjnpkcabkccaoaaGreatQ31
import Derived.Test.YtjnpkcabkccaoaaGreatQ49
import Derived.Test.YtjnpkcabkccaoaaGreatQ50
namespace Go.Proofs.YtjnpkcabkccaoaaGreat.tableRuns
open Go.ChangeShapes Go.WideShapes Go.ChangeAt Go.RowKit
theorem own : ownKnob Tryz.prog.godebug = none := by kernel_rfl
theorem laidOut : laidOutB Tryz.prog = true := by kernel_rfl
set_option maxRecDepth 100000 in
theorem lifted (os : Os) (started : os.Started) (H : Type) (enc : TypeId × Value → H) :
    ReturnsInHanded {} Tryz.checked os 3 .any (Rows.tableRunsSpec.pre6 enc Tryz.prog Tryz.f3 Rows.tableRunsRow.domain false) (Rows.tableRunsSpec.post enc Tryz.prog Tryz.f3 false true false false) := by
  refine returnsInHanded_of_change (C := Tryz.checked) own started (by kernel_rfl) Tryz.func3
    (ChangeSpec.witness6 (enc := enc) (C := Tryz.checked) false ⟨#[], #[.int .i64 0, .slice none 0 0, .agg #[.slice none 0 0, .slice none 0 0]], []⟩ 8 (by kernel_rfl) (by kernel_rfl) (by kernel_rfl) (by kernel_rfl)) ?_
  intro W base args ds gs before hval0 hW hcnd _
  have hval : ∀ (j : Nat) t v, Tryz.f3.params[j]? = some t → args[j]? = some v → Value.okWide Tryz.prog W .any base t v := hval0
  have hW' := hW
  obtain ⟨p, q, hAA, hV, rfl, hfz, hnd⟩ := hW
  have hA : DataW.TrodAll enc Tryz.prog W 0 (fun _ => true) true Tryz.f3.params.toList args.toList ds p := hAA
  rw [Tryz.params3] at hA hval
  obtain ⟨v0, vs0, d0, ds0, p0, q0, hargs, rfl, rfl, h0, r0⟩ := trodAll_cons hA
  obtain ⟨v1, vs1, d1, ds1, p1, q1, rfl, rfl, rfl, h1, r1⟩ := trodAll_cons r0
  obtain ⟨v2, vs2, d2, ds2, p2, q2, rfl, rfl, rfl, h2, r2⟩ := trodAll_cons r1
  obtain ⟨rfl, rfl, rfl⟩ := trodAll_nil r2
  obtain rfl : args = #[v0, v1, v2] := by cases args; simp_all
  obtain ⟨a0, rfl, rfl, rfl, w0⟩ := open_int Tryz.underlying3 (hval 0 3 v0 rfl rfl) h0
  obtain ⟨A1, n1, c1, rfl⟩ := okWide_slice Tryz.underlying22 (hval 1 22 v1 rfl rfl)
  obtain ⟨xs1, hX1⟩ : ∃ xs : List TActV, TActsIn W A1 n1 xs := by
    obtain ⟨fuel, hf⟩ := h1
    obtain ⟨A, n, c, xs, e, h1, h2, h3⟩ := tacts_of_reading hf
    injection e with e1 e2 e3
    subst e1; subst e2; subst e3
    exact ⟨xs, h1⟩
  obtain ⟨P2, n2, c2, Q2, m2, d2, bs2, cs2, rfl, ⟨hB2, hl2⟩, hC2, hm2⟩ := two_byts (hval 2 24 v2 rfl rfl) h2
  refine (truns_any W a0 (wf64 w0).2 A1 n1 c1 xs1 hX1 P2 Q2 n2 c2 m2 d2 bs2 cs2 hB2 hl2 hC2 hm2).mono fun e W' ⟨he, hb⟩ => ?_
  subst he
  exact ⟨_, rfl, law_post 4 laidOut (of_decide_eq_true (by kernel_rfl)) rfl (fun ds h => by
    have h' : ds.length = 3 := h
    match ds, h' with | [_, _, _], _ => rfl) rfl Tryz.underlying4 hW' hb⟩
theorem proved : Rows.TableRunsSaid :=
  OpenClaim.holds_of_wide 3 Tryz.f3 rfl rfl rfl rfl rfl rfl rfl ⟨rfl, rfl, rfl, rfl, rfl⟩ rfl rfl rfl rfl rfl (by kernel_rfl) Tryz.func3 (by kernel_rfl)
    (of_decide_eq_true (by kernel_rfl)) (by unfold Func.isWrapper; first | (rw [if_pos (by decide +kernel)]; kernel_rfl) | (rw [if_neg (by decide +kernel)]; exact ⟨rfl, rfl⟩))
    (fun os started H enc _ => lifted os started H enc)
#print axioms proved
end Go.Proofs.YtjnpkcabkccaoaaGreat.tableRuns
