/-
  A map of references, made by the call itself: what is in it.
-/
import Derived.Test.YtfloclamdpageaaTxE
import Derived.Maps.OwnSet
import Derived.Maps.Views
import Derived.DeepKeys4
namespace Go.Proofs.Ytfloclamdpageaa
open Go.RowKit
open Go.Maps (Keyed)

theorem mapM_all {α β : Type} (f : α → Option β) (g : α → β) : ∀ l : List α, (∀ a ∈ l, f a = some (g a)) → l.mapM f = some (l.map g)
  | [], _ => rfl
  | a :: l, h => by
    rw [List.mapM_cons, h a (by simp), mapM_all f g l (fun b hb => h b (by simp [hb]))]
    rfl
theorem key_u8 (d : Nat) (x : Int) (h0 : 0 ≤ x) (h1 : x ≤ 255) : Try.prog.keyLits (d + 1) 5 [.int .u8 x] = some [.int .u8 x] := by
  have hu : Try.prog.underlying 5 = some (.int .u8) := by kernel_rfl
  have hw : (Lit.int .u8 x).wf = true := by simp [Lit.wf, IntKind.min, IntKind.max, IntKind.signed, IntKind.bits]; omega
  unfold Program.keyLits
  simp [hu, hw]
theorem key_u32 (d : Nat) (x : Int) (h0 : 0 ≤ x) (h1 : x < 4294967296) : Try.prog.keyLits (d + 1) 45 [.int .u32 x] = some [.int .u32 x] := by
  have hu : Try.prog.underlying 45 = some (.int .u32) := by kernel_rfl
  have hw : (Lit.int .u32 x).wf = true := by simp [Lit.wf, IntKind.min, IntKind.max, IntKind.signed, IntKind.bits]; omega
  unfold Program.keyLits
  simp [hu, hw]
theorem flat_one {α : Type} : ∀ l : List α, (l.map (fun x => [x])).flatten = l
  | [] => rfl
  | x :: l => by simp [flat_one l]
theorem range_lits (l : List Int) : ((List.range l.length).map (fun i => [Lit.int .u8 (l.getD i 0)])).flatten = l.map (Lit.int .u8) := by
  have e : (List.range l.length).map (fun i => [Lit.int IntKind.u8 (l.getD i 0)]) = (l.map (Lit.int .u8)).map (fun x => [x]) := by
    apply List.ext_getElem
    · simp
    · intro i h1 h2
      simp at h1
      simp [List.getD_eq_getElem?_getD, h1]
  rw [e, flat_one]
theorem key_size : Try.prog.types.size + 1 = Try.prog.types.size - 2 + 3 := by
  have : 2 ≤ Try.prog.types.size := by decide +kernel
  omega
theorem keyRef (r : RefD) (h : r.Fine) : ∃ s, keyOf Try.prog 47 (.agg r.cells.toArray) = some (.string s) := by
  have hu := Try.underlying47
  have huH := Try.underlying44
  have hk : Try.prog.keyType 47 = true := by kernel_rfl
  have hc : Try.prog.cellsOf 47 = 33 := by kernel_rfl
  have hcH : Try.prog.cellsOf 44 = 32 := by kernel_rfl
  have hc8 : Try.prog.cellsOf 5 = 1 := by kernel_rfl
  have hc32 : Try.prog.cellsOf 45 = 1 := by kernel_rfl
  obtain ⟨m, hm⟩ : ∃ m, Try.prog.types.size + 1 = m + 3 := ⟨Try.prog.types.size - 2, key_size⟩
  have hlen : r.cells.length = 33 := RefD.cells_len h
  have hf : (Value.agg r.cells.toArray).formed Try.prog 47 = true := by
    rw [Value.formed, hu]
    simp [hc, hlen]
  have h32 : Try.prog.keyLits (m + 2) 44 (r.id.map (Value.int .u8)) = some ((r.id.map (Lit.int .u8))) := by
    unfold Program.keyLits
    simp only [huH, hcH, hc8, List.length_map, h.len, if_true]
    rw [mapM_all _ (fun i => [Lit.int .u8 (r.id.getD i 0)]) _ (fun i hi => ?_)]
    · rw [Option.map_some]
      refine congrArg some ?_
      rw [← h.len]
      exact range_lits r.id
    · have hi' : i < 32 := by simpa using hi
      obtain ⟨x, hx⟩ : ∃ x, r.id[i]? = some x := ⟨_, List.getElem?_eq_getElem (by rw [h.len]; exact hi')⟩
      have e : ((r.id.map (Value.int .u8)).drop (i * 1)).take 1 = [.int .u8 x] := by
        rw [Nat.mul_one, List.take_one, List.head?_drop, List.getElem?_map, hx]
        rfl
      have hr := h.byt x (List.mem_of_getElem? hx)
      rw [e, key_u8 _ x hr.1 hr.2]
      simp [List.getD_eq_getElem?_getD, hx]
  refine ⟨keyBytes (r.id.map (Lit.int .u8) ++ [.int .u32 r.at_]), ?_⟩
  rw [keyOf, hu]
  simp only [hk, hf, Bool.and_self, if_true]
  rw [hm]
  unfold Program.keyLits
  simp only [hu]
  have e1 : (r.cells.drop 0).take 32 = r.id.map (Value.int .u8) := by rw [List.drop_zero, RefD.cells, List.take_append_of_le_length (by simp [h.len]), List.take_of_length_le (by simp [h.len])]
  have e2 : (r.cells.drop 32).take 1 = [.int .u32 r.at_] := by rw [RefD.cells, List.drop_append_of_le_length (by simp [h.len]), List.drop_of_length_le (by simp [h.len])]; rfl
  have hk32 := key_u32 (m + 1) r.at_ h.at0 h.at1
  simp only [Value.cells, hlen, hc, List.mapM_cons, List.mapM_nil, hcH, hc32, e1, e2, h32, hk32]
  simp
theorem refKeyed : Keyed Try.prog 47 :=
  Keyed.of_law (deep_law_laid (m := 4) (by kernel_rfl) (by decide) (by decide +kernel) (by kernel_rfl) (by kernel_rfl))
theorem RefD.eqb_iff {a b : RefD} : a.eqb b = true ↔ a = b := by
  unfold RefD.eqb
  rcases a with ⟨i, n⟩
  rcases b with ⟨j, m⟩
  simp
/-- Block b is a map whose keys are these references. -/
def Seen (w : World) (b n : Nat) (seen : List RefD) : Prop :=
  ∃ D : DataW Unit, w.ownsMap Try.prog 47 (plainElem Try.prog 3) b n D ∧ Maps.IsMap D ∧
    ∀ r : RefD, r.Fine → ∀ s, keyOf Try.prog 47 (.agg r.cells.toArray) = some (.string s) → Maps.has D (.string s) = seen.any (fun q => q.eqb r)
theorem Seen.made (w : World) : Seen (w.alloc (.map #[] 0)) w.heap.size 0 [] :=
  ⟨.map [], World.ownsMap_made w _ _ _, Maps.isMap_empty, fun _ _ _ _ => rfl⟩
theorem Seen.only {w w' : World} {b n : Nat} {seen : List RefD} {F : Nat → Prop} (h : Seen w b n seen) (ho : Only F w w') (hb : ¬ F b) : Seen w' b n seen := by
  obtain ⟨D, ⟨es, clock, hm, r⟩, h2⟩ := h
  exact ⟨D, ⟨es, clock, (ho.block b (Array.getElem?_eq_some_iff.1 hm).1 hb).trans hm, r⟩, h2⟩
theorem Seen.lt {w : World} {b n : Nat} {seen : List RefD} (h : Seen w b n seen) : b < w.heap.size := by
  obtain ⟨D, h1, _⟩ := h
  exact h1.lt
theorem zero_int (w : World) : (zeroValue 3).run Try.prog w = .ok (.int .i64 0) w := by kernel_rfl
theorem wpList_seen_look (w : World) {ops : Array Oper} {rest : List Oper} {o : Oper} {a : Act} {Q : Exit → Act → World → Prop} (hg : o.guard = none) (m x : Operand) (hop : o.op = Op.lookup 102 m x true)
    (b n : Nat) (seen : List RefD) (hm : a.eval m = .map (some b)) (h : Seen w b n seen) (r : RefD) (hr : r.Fine) (hx : a.eval x = .agg r.cells.toArray)
    (hK : ∀ c : Int, wpList Try.prog ops Q rest (a.put o.dst (.tuple #[.int .i64 c, .bool (seen.any (fun q => q.eqb r))])) w) : wpList Try.prog ops Q (o :: rest) a w := by
  obtain ⟨D, h1, _, h3⟩ := h
  obtain ⟨s, hs⟩ := keyRef r hr
  refine wpList_lookup_own_ok_int w hg m x _ hop 47 3 .i64 refKeyed Try.underlying102 Try.underlying3 (zero_int w) b n D hm h1 _ _ hx hs (fun c _ _ => ?_)
  rw [h3 r hr s hs]
  exact hK c
theorem wpList_seen_put (w : World) {ops : Array Oper} {rest : List Oper} {o : Oper} {a : Act} {Q : Exit → Act → World → Prop} (hg : o.guard = none) (m x v : Operand) (hop : o.op = Op.mapUpdate 102 m x v)
    (b n : Nat) (seen : List RefD) (hm : a.eval m = .map (some b)) (h : Seen w b n seen) (hn : n ≤ 1000000) (r : RefD) (hr : r.Fine) (hx : a.eval x = .agg r.cells.toArray) (c : Int) (hv : a.eval v = .int .i64 c) (hc : (Lit.int .i64 c).wf = true)
    (hK : ∀ w', Seen w' b (n + 1) (seen ++ [r]) → Only (fun i => i = b) w w' → wpList Try.prog ops Q rest (a.put o.dst undef) w') : wpList Try.prog ops Q (o :: rest) a w := by
  obtain ⟨D, h1, h2, h3⟩ := h
  obtain ⟨s, hs⟩ := keyRef r hr
  refine wpList_mapUpdate_own w hg m x v _ hop 47 3 refKeyed Try.underlying102 (plainElem Try.prog 3) b n D hm h1 (by simp only [maxLen]; omega) _ _ _ hx hv hs _ _ (plainElem_int Try.underlying3 hc) (fun w' q1 q2 => ?_)
  refine hK w' ⟨_, q1, h2.put _ _, fun r' hr' s' hs' => ?_⟩ ((Only.refl _ w).grown q2 (fun g hg => .inr (Option.some.inj hg).symm))
  rw [List.any_append]
  by_cases e : r = r'
  · subst e
    have : Lit.string s' = Lit.string s := (Option.some.inj (hs.symm.trans hs')).symm
    rw [this, Maps.has_put_same h2 (refKeyed.key hs)]
    have : r.eqb r = true := RefD.eqb_iff.2 rfl
    simp [this]
  · have hne : Lit.string s' ≠ Lit.string s := fun e2 => by
      rw [e2] at hs'
      have h9 : (Value.agg r.cells.toArray).cells = (Value.agg r'.cells.toArray).cells := congrArg Value.cells (refKeyed.inj hs hs')
      exact e (RefD.cells_inj hr hr' (by simpa [Value.cells] using h9))
    rw [Maps.has_put_other hne, h3 r' hr' s' hs']
    have : r.eqb r' = false := by
      cases hq : r.eqb r' with
      | false => rfl
      | true => exact absurd (RefD.eqb_iff.1 hq) e
    simp [this]
end Go.Proofs.Ytfloclamdpageaa
