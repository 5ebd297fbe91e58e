import Derived.Test.YtbpmcnfmgaolnaaRows
import Derived.Test.YtbpmcnfmgaolnaaBlockBytesP
import Derived.Test.YtbpmcnfmgaolnaaPk24
import Derived.Test.YtbpmcnfmgaolnaaPk1
/-
  BlockBytes: for every input the law returns true, and each argument reads behind the call as it read before. No condition.
-/
namespace Go.Proofs.Ytbpmcnfmgaolnaa.blockBytes
open Go.ChangeShapes Go.WideShapes Go.ChangeAt Go.RowKit
theorem own : ownKnob Try.prog.godebug = none := by kernel_rfl
theorem laidOut : laidOutB Try.prog = true := by kernel_rfl
set_option maxRecDepth 100000 in
theorem lifted (os : Os) (started : os.Started) (H : Type) (enc : TypeId × Value → H) :
    ReturnsInHanded {} Try.checked os 7 .any (Rows.blockBytesSpec.pre6 enc Try.prog Try.f7 Rows.blockBytesRow.domain false) (Rows.blockBytesSpec.post enc Try.prog Try.f7 false true false false) := by
  refine returnsInHanded_of_change (C := Try.checked) own started (by kernel_rfl) Try.func7
    (ChangeSpec.witness6 (enc := enc) (C := Try.checked) false ⟨#[], #[.agg (List.toArray (.int .u32 0 :: (List.replicate 64 (.int .u8 0) ++ (.int .u32 0 :: .int .u32 0 :: .int .u32 0 :: .slice none 0 0 :: [])))), .agg (List.toArray (.int .u32 0 :: (List.replicate 64 (.int .u8 0) ++ (.int .u32 0 :: .int .u32 0 :: .int .u32 0 :: .slice none 0 0 :: []))))], []⟩ 8 (by kernel_rfl) (by kernel_rfl) (by kernel_rfl) (by kernel_rfl)) ?_
  intro W base args ds gs before hval0 hW hcnd _
  have hval : ∀ (j : Nat) t v, Try.f7.params[j]? = some t → args[j]? = some v → Value.okWide Try.prog W .any base t v := hval0
  have hW' := hW
  obtain ⟨p, q, hAA, hV, rfl, hfz, hnd⟩ := hW
  have hA : DataW.TrodAll enc Try.prog W 0 (fun _ => true) true Try.f7.params.toList args.toList ds p := hAA
  rw [Try.params7] at hA hval
  obtain ⟨v0, vs0, d0, ds0, p0, q0, hargs, rfl, rfl, h0, r0⟩ := trodAll_cons hA
  obtain ⟨v1, vs1, d1, ds1, p1, q1, rfl, rfl, rfl, h1, r1⟩ := trodAll_cons r0
  obtain ⟨rfl, rfl, rfl⟩ := trodAll_nil r1
  obtain rfl : args = #[v0, v1] := by cases args; simp_all
  obtain ⟨a0, rfl, ha0, hm0⟩ := open_blk (hval 0 40 v0 rfl rfl) h0
  obtain ⟨a1, rfl, ha1, hm1⟩ := open_blk (hval 1 40 v1 rfl rfl) h1
  refine (blockbytes_any W a0 a1 ha0 ha1).mono fun e W' ⟨he, hb⟩ => ?_
  subst he
  exact ⟨_, rfl, law_post 4 laidOut (of_decide_eq_true (by kernel_rfl)) rfl (fun ds h => by
    have h' : ds.length = 2 := h
    match ds, h' with | [_, _], _ => rfl) rfl Try.underlying4 hW' hb⟩
theorem proved : Rows.BlockBytesSaid :=
  OpenClaim.holds_of_wide 7 Try.f7 rfl rfl rfl rfl rfl rfl rfl ⟨rfl, rfl, rfl, rfl, rfl⟩ rfl rfl rfl rfl rfl (by kernel_rfl) Try.func7 (by kernel_rfl)
    (of_decide_eq_true (by kernel_rfl)) (by unfold Func.isWrapper; first | (rw [if_pos (by decide +kernel)]; kernel_rfl) | (rw [if_neg (by decide +kernel)]; exact ⟨rfl, rfl⟩))
    (fun os started H enc _ => lifted os started H enc)
#print axioms proved
end Go.Proofs.Ytbpmcnfmgaolnaa.blockBytes
