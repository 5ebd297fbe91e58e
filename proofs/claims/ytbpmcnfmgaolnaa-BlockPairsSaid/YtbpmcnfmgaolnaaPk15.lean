import Derived.Test.YtbpmcnfmgaolnaaPk10
import Derived.Test.YtbpmcnfmgaolnaaPk11
import Derived.Test.YtbpmcnfmgaolnaaPk4
import Derived.StillTailTactics
/-
  What is signed: plain; rows of Ins of one's own, changed in place; the program's Hash.
-/
namespace Go.Proofs.Ytbpmcnfmgaolnaa
open Go.RowKit

/-- What is signed of an In. -/
def InD.bare (a : InD) (k : Nat) (i : Int) (lock : List Int) : InD := ⟨a.ref, if (k : Int) = i then lock else [], a.order⟩
def signT (t : TxD) (i : Int) (lock : List Int) : TxD := ⟨t.version, t.ins.mapIdx fun k a => a.bare k i lock, t.outs, t.until_⟩
def hashT (t : TxD) (i : Int) (lock : List Int) : List Int := sha2 ((signT t i lock).bytes ++ dig (i % 4294967296).toNat 4)
theorem hashT_len (t : TxD) (i : Int) (lock : List Int) : (hashT t i lock).length = 32 := sha2_len _
/-- In memory: its unlock another. -/
def InV.with (a : InV) (B : Option Addr) (m d : Nat) (bs : List Int) : InV := ⟨a.ref, B, m, d, bs, a.order⟩
theorem InV.with_cells (a : InV) (h : a.ref.Fine) (B : Option Addr) (m d : Nat) (bs : List Int) : (a.with B m d bs).cells = a.cells.set 33 (.slice B m d) := by
  simp only [InV.with, InV.cells]
  rw [List.set_append_right _ _ (by rw [RefD.cells_len h]; exact Nat.le_refl _), RefD.cells_len h]
  rfl
theorem flatMap_set {α : Type} (f : α → List Value) (K : Nat) : ∀ (xs : List α) (k j : Nat) (a a' : α) (v : Value), (∀ x ∈ xs, (f x).length = K) → xs[k]? = some a → j < K → f a' = (f a).set j v → (xs.flatMap f).set (k * K + j) v = (xs.set k a').flatMap f
  | [], k, j, a, a', v, _, h, _, _ => by simp at h
  | x :: xs, 0, j, a, a', v, hl, h, hj, hf => by
    simp at h; subst h
    rw [List.flatMap_cons, List.set_cons_zero, List.flatMap_cons, Nat.zero_mul, Nat.zero_add, List.set_append_left _ _ (by rw [hl x (by simp)]; exact hj), hf]
  | x :: xs, k + 1, j, a, a', v, hl, h, hj, hf => by
    simp at h
    rw [List.flatMap_cons, List.set_cons_succ, List.flatMap_cons, List.set_append_right _ _ (by rw [hl x (by simp), Nat.succ_mul]; omega), hl x (by simp)]
    rw [show (k + 1) * K + j - K = k * K + j by rw [Nat.succ_mul]; omega]
    rw [flatMap_set f K xs k j a a' v (fun y hy => hl y (by simp [hy])) h hj hf]
/-- A block whose beginning is a row. -/
def RowB (w : World) (g : Nat) (e : TypeId) (cs : List Value) : Prop := ∃ l, Blk w g e l ∧ l.take cs.length = cs
theorem RowB.cell {w : World} {g : Nat} {e : TypeId} {cs : List Value} (h : RowB w g e cs) (i : Nat) (v : Value) (hv : cs[i]? = some v) : w.cell? ⟨g, i, none⟩ = some v := by
  obtain ⟨l, hb, ht⟩ := h
  rw [hb.cell]
  have hi : i < cs.length := (List.getElem?_eq_some_iff.1 hv).1
  rw [← ht, List.getElem?_take, if_pos hi] at hv
  exact hv
theorem RowB.frozen {w : World} {g : Nat} {e : TypeId} {cs : List Value} (h : RowB w g e cs) (i : Nat) : w.frozen? ⟨g, i, none⟩ = false := by
  obtain ⟨l, hb, _⟩ := h
  exact hb.frozen i
theorem RowB.set_ {w : World} {g : Nat} {e : TypeId} {cs : List Value} (h : RowB w g e cs) (i : Nat) (v : Value) : RowB (w.setCell ⟨g, i, none⟩ v) g e (cs.set i v) := by
  obtain ⟨l, hb, ht⟩ := h
  refine ⟨l.set i v, hb.set_ i v, ?_⟩
  rw [List.length_set, List.take_set, ht]
theorem RowB.range {w : World} {g : Nat} {e : TypeId} {cs : List Value} (h : RowB w g e cs) : w.rangeAt g 0 cs := fun j v hv => by
  rw [Nat.zero_add]; exact h.cell j v hv
theorem RowB.under {w w' : World} {g : Nat} {e : TypeId} {cs : List Value} (h : RowB w g e cs) (hb : Below w.heap.size w w') : RowB w' g e cs := by
  obtain ⟨l, hbk, ht⟩ := h
  exact ⟨l, hbk.under hb, ht⟩
theorem RowB.only {w w' : World} {g : Nat} {e : TypeId} {cs : List Value} {F : Nat → Prop} (h : RowB w g e cs) (ho : Only F w w') (hg : ¬ F g) : RowB w' g e cs := by
  obtain ⟨l, hbk, ht⟩ := h
  exact ⟨l, ho.blk hbk hg, ht⟩
theorem RowB.lt {w : World} {g : Nat} {e : TypeId} {cs : List Value} (h : RowB w g e cs) : g < w.heap.size := by
  obtain ⟨l, hbk, _⟩ := h
  exact hbk.lt
section
variable {P : Program}
/-- An append to a row of one's own, of a slice at any address. -/
theorem wpList_mineRa {w : World} {ops : Array Oper} {rest : List Oper} {o : Oper} {a : Act} {Q : Exit → Act → World → Prop} (hgd : o.guard = none) (s x : Operand) (t : TypeId)
    (ho : o.op = .call { callee := .builtin .append, args := #[s, x], argTypes := #[t, t] })
    (e : TypeId) (k by_ : Nat) (ht : P.underlying t = some (.slice e)) (hi : (P.info? e).map (fun i => (i.size, i.bytes, i.zero.map (fun z => z.cells.size))) = some (k, by_, some k)) (hk : 0 < k)
    (w0 : World) (v : Value) (n : Nat) (cs : List Value) (hs : a.eval s = v) (h : MineR e k w0 w v n cs)
    (ad : Addr) (m c : Nat) (news : List Value) (hx : a.eval x = .slice (some ad) m c) (hl : news.length = m * k) (hnews : ∀ (j : Nat) (u : Value), news[j]? = some u → w.cell? (ad.add j) = some u) (h1 : ∀ u ∈ news, u.oneCell' = true)
    (hbytes : (n + m) * by_ ≤ 140737488355328) (hby : 0 < by_)
    (hK : ∀ A' c' w', MineR e k w0 w' (.slice A' (n + m) c') (n + m) (cs ++ news) → (∀ g, (Value.slice A' (n + m) c').ownBlock = some g → v.ownBlock = some g ∨ w.heap.size ≤ g) → Only (fun i => v.ownBlock = some i) w w' → wpList P ops Q rest (a.put o.dst (.slice A' (n + m) c')) w') : wpList P ops Q (o :: rest) a w := by
  obtain ⟨i, z, hi1, hz, hsz, hbb, hzs⟩ : ∃ i z, P.info? e = some i ∧ i.zero = some z ∧ i.size = k ∧ i.bytes = by_ ∧ z.cells.size = k := by
    cases hq : P.info? e with
    | none => simp [hq] at hi
    | some i =>
      cases hz : i.zero with
      | none => simp [hq, hz] at hi
      | some z =>
        simp [hq, hz] at hi
        exact ⟨i, z, rfl, hz, hi.1, hi.2.1, hi.2.2⟩
  have hn : n + m ≤ 140737488355328 := Nat.le_trans (Nat.le_mul_of_pos_right _ hby) hbytes
  refine wpList_plain hgd fun _ hK' => ?_
  obtain ⟨v', w', hrun, o1, g1, _, hat⟩ := run_append_own_at (P := P) w w0.heap.size t o.type e i z k by_ ht hi1 hz hsz hbb hzs hk v n cs h.2 ad m c news hl hnews h1 (by simp only [maxLen]; omega) hbytes h.1.size
  have hm : MineR e k w0 w' v' (n + m) (cs ++ news) := ⟨h.1.grown g1 h.1.size (fun g hg => (h.2.lt g hg).1), o1⟩
  obtain ⟨A', c', rfl, _⟩ := hm.rows hk
  unfold Oper.wp execOp
  simp only [ho, resolve, invoke, builtin, Sem.run_bind, Sem.run_pure, Result.andThen_ok, List.map_toArray, List.map_cons, List.map_nil, hs, hx, hrun]
  refine hK' _ _ (hK A' c' w' hm (fun g hg => ?_) ((Only.refl _ w).grown g1 (fun g hg => .inr hg)))
  rcases hat with h1 | h1
  · left; rw [← h1]; exact hg
  · right; rw [h1] at hg; injection hg with hg; omega
end
/-- The row of one's own, as a block. -/
theorem MineR.rowB {e : TypeId} {k : Nat} {w0 w : World} {A : Option Addr} {n c : Nat} {cs : List Value} (h : MineR e k w0 w (.slice A n c) n cs) (hn : 0 < n) : ∃ g : Nat, A = some ⟨g, 0, none⟩ ∧ w0.heap.size ≤ g ∧ RowB w g e cs := by
  rcases h.2.2 with ⟨_, h0⟩ | ⟨g, cap, cur, e1, hb, hh, hnc, hcm, _, htake⟩
  · omega
  · injection e1 with e1 _ _
    have hc : Blk w g e cur.toList := by simpa [Blk] using hh
    exact ⟨g, e1, hb, cur.toList, hc, by rw [h.2.1]; exact htake⟩
theorem MineR.empty {w : World} {e : TypeId} {k : Nat} (cs : List Value) (h0 : cs = []) : MineR e k w (w.alloc (.cells cs.toArray e)) (.slice (some ⟨w.heap.size, 0, none⟩) 0 0) 0 [] := by
  subst h0
  refine ⟨(Below.refl _ w).alloc (Nat.le_refl _) _, by simp, .inr ⟨w.heap.size, 0, #[], rfl, Nat.le_refl _, heap_alloc_new w _, Nat.le_refl _, by simp [maxLen], by simp, by simp⟩⟩
def ClonePost (w : World) (n : Nat) (cs : List Value) (e : Ending) (w' : World) : Prop :=
  ∃ A' c', e = .returned (.slice A' n c') ∧ n ≤ c' ∧ Below w.heap.size w w' ∧ ∃ g : Nat, w.heap.size ≤ g ∧ (0 < n → A' = some ⟨g, 0, none⟩ ∧ RowB w' g 60 cs)
theorem ClonePost.of {w w' : World} {A : Option Addr} {n c : Nat} {cs : List Value} (h : MineR 60 35 w w' (.slice A n c) n cs) : ClonePost w n cs (.returned (.slice A n c)) w' := by
  obtain ⟨A1, c1, e1, hc, _, _⟩ := h.rows (by decide)
  injection e1 with e1 _ e3
  subst e1
  subst e3
  refine ⟨A, c, rfl, hc, h.below, ?_⟩
  rcases Nat.eq_zero_or_pos n with h0 | h0
  · exact ⟨w.heap.size, Nat.le_refl _, fun h => absurd h (by omega)⟩
  · obtain ⟨g, h1, h2, h3⟩ := h.rowB h0
    exact ⟨g, h2, fun _ => ⟨h1, h3⟩⟩
theorem eql_nilI (w : World) (a : Option Addr) (n c n' c' : Nat) : (binOp .eql 34 (.slice a n c) (.slice none n' c')).run Try.prog w = .ok (.bool a.isNone) w :=
  Lib.run_eql_slice_nil w _ _ a n c n' c' Try.underlying34
set_option maxHeartbeats 400000 in
set_option maxRecDepth 100000 in
theorem cloneIn_any (w : World) (A : Option Addr) (n c : Nat) (xs : List InV) (hX : InsIn w A n xs) (hn : n ≤ 1000) :
    Calls Try.prog 110 #[.slice A n c] w (ClonePost w n (xs.flatMap InV.cells)) := by
  have HN := hide hn
  clear hn
  have q24 := eql_nilI
  cases A with
  | none =>
    have h0 : n = 0 := by
      rcases Nat.eq_zero_or_pos n with h1 | h1
      · exact h1
      · obtain ⟨_, _, h2, _⟩ := hX.2.2 h1; cases h2
    subst h0
    go_enter Try.func110, Try.ntmps110
    go_wp2
    go_ret
    exact ⟨none, 0, rfl, Nat.le_refl _, Below.refl _ _, w.heap.size, Nat.le_refl _, fun h => absurd h (by omega)⟩
  | some a =>
    have hlen : (xs.flatMap InV.cells).length = n * 35 := by
      rw [← hX.1]
      have : ∀ l : List InV, (∀ a ∈ l, a.ref.Fine) → (l.flatMap InV.cells).length = l.length * 35 := by
        intro l
        induction l with
        | nil => intro _; simp
        | cons x l ih => intro h; rw [List.flatMap_cons, List.length_append, ih (fun y hy => h y (by simp [hy])), InV.cells_len (h x (by simp)), List.length_cons]; omega
      exact this xs fun a ha => (hX.2.1 a ha).ref
    have hone : ∀ u ∈ xs.flatMap InV.cells, u.oneCell' = true := fun u hu => by
      obtain ⟨a, _, h2⟩ := List.mem_flatMap.1 hu
      exact InV.one a u h2
    have hnews : ∀ (j : Nat) (u : Value), (xs.flatMap InV.cells)[j]? = some u → w.cell? (a.add j) = some u := by
      intro j u hu
      have hj : j < n * 35 := by have := (List.getElem?_eq_some_iff.1 hu).1; omega
      obtain ⟨b, off, h2, h3⟩ := hX.2.2 (by omega)
      injection h2 with h2
      subst h2
      rw [Addr.add_mid]
      have hi : j / 35 < xs.length := by rw [hX.1]; omega
      have h4 := h3 (j / 35) _ (List.getElem?_eq_getElem hi)
      have key : ∀ (ys : List InV) (i : Nat), (∀ a ∈ ys, a.ref.Fine) → (hi : i < ys.length) → ∀ k, k < 35 → (ys.flatMap InV.cells)[i * 35 + k]? = (ys[i]).cells[k]? := by
        intro ys
        induction ys with
        | nil => intro i _ h; simp at h
        | cons y ys ih =>
          intro i hf hi k hk
          have hy := InV.cells_len (hf y (by simp))
          cases i with
          | zero => rw [List.flatMap_cons, List.getElem?_append_left (by omega)]; simp
          | succ i =>
            rw [List.flatMap_cons, List.getElem?_append_right (by omega), hy, show (i + 1) * 35 + k - 35 = i * 35 + k by omega]
            rw [ih i (fun a ha => hf a (by simp [ha])) (by simp at hi; omega) k hk]
            simp
      have h5 := key xs (j / 35) (fun a ha => (hX.2.1 a ha).ref) hi (j % 35) (by omega)
      rw [show j / 35 * 35 + j % 35 = j by omega, hu] at h5
      have h6 := h4 (j % 35) u h5.symm
      rw [show off + j / 35 * 35 + j % 35 = off + j by omega] at h6
      exact h6
    have H1 := hide hlen
    have H2 := hide hone
    have H3 := hide hnews
    clear hlen hone hnews
    have HB := hide (show Below w.heap.size w (w.alloc (.cells #[] 60)) from (Below.refl _ w).alloc (Nat.le_refl _) _)
    go_enter Try.func110, Try.ntmps110
    go_wp2_with (at_builtin; refine wpList_mineRa rfl _ _ 34 rfl 60 35 72 Try.underlying34 in_infoR (by decide) w _ 0 [] (by rfl) (MineR.empty [] rfl) a n c (xs.flatMap InV.cells) (by rfl) H1.out (fun j u hu => cell_under HB.out (H3.out j u hu)) H2.out (by have := HN.out; omega) (by decide) ?_; intro A' c' w' q1 q2 q3)
    go_wp2
    go_ret
    simp only [Nat.zero_add, List.nil_append] at q1 ⊢
    refine ClonePost.of q1
end Go.Proofs.Ytbpmcnfmgaolnaa
/-
  The document: null, Base, Check of transactions.
-/
namespace Go.Proofs.Ytbpmcnfmgaolnaa
open Go.RowKit

attribute [local go_sem ↓] loadIn_fold loadRef_fold loadTx_fold eqlRef_fold neqRef_fold mkRef_fold mkTx_fold
attribute [local go_sem] mkRef_null
set_option maxHeartbeats 1000000 in
set_option maxRecDepth 100000 in
theorem refnull_any (w : World) (r : RefD) (hr : r.Fine) : Calls Try.prog 109 #[.agg r.cells.toArray] w fun e w' => e = .returned (.bool (r.eqb nullR)) ∧ Below w.heap.size w w' := by
  have hld := loadRef_run (w.alloc (.cells r.cells.toArray 58)) w.heap.size 0 r (Blk.new w 58 r.cells).whole hr
  have heq := fun w => eqlRef_run r nullR hr nullR_fine w
  go_enter Try.func109, Try.ntmps109
  go_wp2_with fail
  go_ret
  exact ⟨by simp [RefD.eqb, Bool.decide_and], below_alloc (Below.refl _ _) _⟩
set_option maxHeartbeats 4000000 in
set_option maxRecDepth 100000 in
theorem refTBase_any (w : World) (t : TxV) (hf : t.Fine w) (hs : t.Small) :
    Calls Try.prog 64 #[.agg t.cells.toArray] w fun e w' => e = .returned (.bool (baseT (t.ins.map InV.d))) ∧ Below w.heap.size w w' := by
  obtain ⟨version, iA, iN, iC, ins, oA, oN, oC, outs, until_⟩ := t
  obtain ⟨_, _, hins, _, _, _⟩ := hf
  have hn := hs.ins
  simp only at hins hn
  have B0 := Blk.new w 37 [.int .u32 version, .slice iA iN iC, .slice oA oN oC, .int .u32 until_]
  have hb0 := hide (show Below w.heap.size w (w.alloc (.cells #[.int .u32 version, .slice iA iN iC, .slice oA oN oC, .int .u32 until_] 37)) from below_alloc (Below.refl _ _) _)
  show Calls _ _ #[.agg #[.int .u32 version, .slice iA iN iC, .slice oA oN oC, .int .u32 until_]] _ _
  have HI := hide (hins.below' hb0.out)
  clear hins
  by_cases h1 : iN = 1
  · subst h1
    obtain ⟨a, ha⟩ : ∃ a, ins[0]? = some a := ⟨_, List.getElem?_eq_getElem (by have := HI.out.1; omega)⟩
    have haf := hide (HI.out.2.1 a (List.mem_of_getElem? ha)).ref
    obtain ⟨b, off, rfl, hrow⟩ := HI.out.2.2 (by omega)
    have hra := hide (show (w.alloc (.cells #[.int .u32 version, .slice (some ⟨b, off, none⟩) 1 iC, .slice oA oN oC, .int .u32 until_] 37)).rangeAt b off a.ref.cells by have := InV.range_ref (hrow 0 a ha); simpa using this)
    have hone : ins = [a] := by
      have hl := HI.out.1
      rcases ins with _ | ⟨c, _ | ⟨d, l⟩⟩
      · simp at hl
      · simp at ha; rw [ha]
      · simp at hl
    have hres := hide (show baseT ((ins).map InV.d) = a.ref.eqb nullR by rw [hone]; rfl)
    have hc1 : (((1 : Nat) : Int) == 1) = true := by decide
    have hlr := loadRef_run _ b off a.ref hra.out haf.out
    clear hone ha hrow
    go_enter Try.func64, Try.ntmps64
    go_wp2_with fail
    refine (refnull_any _ a.ref haf.out).mono ?_
    rintro e w2 ⟨rfl, b2⟩
    go_wp2_with fail
    go_ret
    exact ⟨by rw [hres.out]; simp, Below.then_ hb0.out b2⟩
  · have hc1 : ((iN : Int) == 1) = false := by simp; omega
    have hres := hide (baseT_not (ins.map InV.d) (by rw [List.length_map, HI.out.1]; exact h1))
    go_enter Try.func64, Try.ntmps64
    go_wp2_with fail
    go_ret
    exact ⟨by rw [hres.out]; simp, hb0.out⟩
end Go.Proofs.Ytbpmcnfmgaolnaa
/-
  The document: Check of transactions.
-/
namespace Go.Proofs.Ytbpmcnfmgaolnaa
open Go.RowKit

theorem any_at {l : List InD} {k i : Nat} {a b : InD} (hk : l[k]? = some a) (hki : k < i) (h : a.ref.eqb b.ref = true) : ((l.take i).map (·.ref)).any (fun q => q.eqb b.ref) = true := by
  rw [List.any_eq_true]
  refine ⟨a.ref, List.mem_map.2 ⟨a, ?_, rfl⟩, h⟩
  have : (l.take i)[k]? = some a := by rw [List.getElem?_take, if_pos hki]; exact hk
  exact List.mem_of_getElem? this
theorem any_none {l : List InD} {i : Nat} {b : RefD} (h : ∀ q ∈ (l.take i).map (·.ref), q.eqb b = false) : ((l.take i).map (·.ref)).any (fun q => q.eqb b) = false := by
  rw [List.any_eq_false]
  intro q hq
  rw [h q hq]; decide
theorem none_step {l : List InD} {k : Nat} {a : InD} {b : RefD} (h : ∀ q ∈ (l.take k).map (·.ref), q.eqb b = false) (hk : l[k]? = some a) (ha : a.ref.eqb b = false) : ∀ q ∈ (l.take (k + 1)).map (·.ref), q.eqb b = false := by
  intro q hq
  rw [List.take_add_one, hk] at hq
  simp only [Option.toList_some, List.map_append, List.mem_append, List.map_cons, List.map_nil, List.mem_singleton] at hq
  rcases hq with hq | hq
  · exact h q hq
  · rw [hq]; exact ha
theorem TxV.at_ (t : TxV) (j : Nat) (a : InV) (h : t.ins[j]? = some a) : t.d.ins[j]? = some a.d := by
  show (t.ins.map InV.d)[j]? = _
  rw [List.getElem?_map, h]; rfl
def nullA : InD := ⟨nullR, [], 0⟩
attribute [local go_sem ↓] loadIn_fold loadRef_fold loadTx_fold eqlRef_fold neqRef_fold mkRef_fold mkTx_fold
set_option maxHeartbeats 8000000 in
set_option maxRecDepth 100000 in
theorem refTCheck_any (w : World) (t : TxV) (hf : t.Fine w) (hs : t.Small) :
    Calls Try.prog 62 #[.agg t.cells.toArray] w fun e w' => e = .returned (.int .i64 (checkT t.d)) ∧ Below w.heap.size w w' := by
  have T0 := Blk.new w 37 t.cells
  have hb0 : Below w.heap.size w (w.alloc (.cells t.cells.toArray 37)) := (Below.refl _ w).alloc (Nat.le_refl _) _
  have HF := hide (hf.below hb0)
  have HB0 := hide hb0
  have HS := hide hs
  have hil := hide (show t.d.ins.length = t.iN by show (t.ins.map InV.d).length = _; rw [List.length_map, hf.ins.1])
  have hol := hide (show t.d.outs.length = t.oN by show (t.outs.map OutV.d).length = _; rw [List.length_map, hf.outs.1])
  obtain ⟨w1, hw1⟩ : ∃ w1, w1 = w.alloc (.cells t.cells.toArray 37) := ⟨_, rfl⟩
  have hld := loadTx_run w1 w.heap.size 0 t (by rw [hw1]; exact T0.whole)
  rw [← hw1] at T0 HF HB0
  have x1 := T0.c1
  have x2 := T0.c2
  have HT := hide T0
  clear hf hs T0 hb0
  by_cases h1 : t.iN = 0
  · have hc1 : (t.iN : Int) < 1 := by omega
    have hres : checkT t.d = 101 := by unfold checkT; rw [if_pos (.inl (by rw [hil.out]; exact h1))]
    have HR := hide hres
    clear hres h1
    subst hw1
    go_enter Try.func62, Try.ntmps62
    go_wp2_with fail
    go_ret
    exact ⟨by rw [HR.out]; rfl, HB0.out⟩
  · have hc1 : ¬ (t.iN : Int) < 1 := by omega
    by_cases h2 : t.oN = 0
    · have hc2 : (t.oN : Int) < 1 := by omega
      have hres : checkT t.d = 101 := by unfold checkT; rw [if_pos (.inr (.inl (by rw [hol.out]; exact h2)))]
      have HR := hide hres
      clear hres h1 h2
      subst hw1
      go_enter Try.func62, Try.ntmps62
      go_wp2_with fail
      go_ret
      exact ⟨by rw [HR.out]; rfl, HB0.out⟩
    · have hc2 : ¬ (t.oN : Int) < 1 := by omega
      have h12 := hide (show ¬ (t.d.ins.length = 0) ∧ ¬ (t.d.outs.length = 0) by rw [hil.out, hol.out]; exact ⟨h1, h2⟩)
      clear h1 h2
      subst hw1
      go_enter Try.func62, Try.ntmps62
      go_wp2_with fail
      obtain ⟨w1, hw1⟩ : ∃ w1, w1 = w.alloc (.cells t.cells.toArray 37) := ⟨_, rfl⟩
      rw [← hw1] at HF HB0 HT x1 x2 hld ⊢
      clear hw1
      refine (refTBytes_any w1 t HF.out HS.out).mono ?_
      rintro e w2 ⟨A2, n2, c2, rfl, t2, f2⟩
      have hb2 := t2.below
      have HB2 := hide hb2
      have hl2 := hide t2.len
      have x2 := cell_under hb2 x2
      have x1 := cell_under hb2 x1
      clear t2 f2 hld
      by_cases h3 : 5000 < n2
      · have hc3 : (5000 : Int) < (n2 : Int) := by omega
        have hres : checkT t.d = 101 := by unfold checkT; rw [if_pos (.inr (.inr (by rw [hl2.out]; exact h3)))]
        have HR := hide hres
        clear hres h3
        go_wp2_with fail
        go_ret
        exact ⟨by rw [HR.out]; rfl, Below.then_ HB0.out HB2.out⟩
      · have hc3 : ¬ (5000 : Int) < (n2 : Int) := by omega
        have hres0 : checkT t.d = (if (sumFrom (t.d.outs.map (·.value)) 0).2 ≠ 0 then (sumFrom (t.d.outs.map (·.value)) 0).2
            else if dup [] t.d.ins = true then 101
            else if baseT t.d.ins = true then (if (t.d.ins.map (fun a => a.unlock.length)).headD 0 < 2 ∨ 100 < (t.d.ins.map (fun a => a.unlock.length)).headD 0 then 101 else 0)
            else if (t.d.ins.map (·.ref)).any (fun q => q.eqb nullR) = true then 101 else 0) := by
          unfold checkT
          rw [if_neg]
          rintro (h | h | h)
          · exact h12.out.1 h
          · exact h12.out.2 h
          · rw [hl2.out] at h; exact h3 h
        have HR0 := hide hres0
        clear hres0 h3
        go_wp2_with fail
        refine (refsum_any w2 t.oA t.oN t.oC t.outs (HF.out.outs.below' HB2.out) (by have := HS.out.outs; omega)).mono ?_
        rintro e w3 ⟨rfl, hb3⟩
        have hvs : t.outs.map (·.v) = t.d.outs.map (·.value) := by show _ = (t.outs.map OutV.d).map (·.value); rw [List.map_map]; rfl
        rw [hvs]
        obtain ⟨sm, hsm⟩ : ∃ sm, sm = sumFrom (t.d.outs.map (·.value)) 0 := ⟨_, rfl⟩
        rw [← hsm] at HR0 ⊢
        have x1 := cell_under hb3 x1
        have HB3 := hide (Below.then_ HB2.out hb3)
        clear hsm hvs hb3 hb2 x2
        by_cases h4 : sm.2 = 0
        · have hc4 : (sm.2 == 0) = true := by simp [h4]
          have hc4' : (sm.2 != 0) = false := by simp [h4]
          have HR1 := hide (HR0.out.trans (if_neg (fun h => h h4)))
          have HB30 := hide (Below.then_ HB0.out HB3.out)
          clear HR0 h4
          go_wp2_with fail
          go_loopw [37] (fun i wr => ∃ j : Nat, j ≤ t.iN ∧ i = .int .i64 (j : Int) ∧ dup [] t.d.ins = dup ((t.d.ins.take j).map (·.ref)) (t.d.ins.drop j) ∧ Below w3.heap.size w3 wr) (fun i _ => t.iN - (intOf i).toNat)
          case atStart => exact ⟨0, by omega, rfl, rfl, Below.refl _ _⟩
          case round =>
            rename World => wi
            obtain ⟨i, hi, rfl, hd, hbw⟩ := hrel
            have HD := hide hd
            have HBI := hide hbw
            have y1 := cell_under hbw x1
            clear x1
            by_cases hlt : i < t.iN
            · obtain ⟨a, ha⟩ : ∃ a, t.ins[i]? = some a := ⟨_, List.getElem?_eq_getElem (by have := HF.out.ins.1; omega)⟩
              have haf := HF.out.ins.2.1 a (List.mem_of_getElem? ha)
              obtain ⟨pa, oa, hpa, hra⟩ := HF.out.ins.2.2 (by omega)
              have HRA := hide hra
              have hdj := hide (dup_step t.d.ins i a.d (t.at_ i a ha))
              have HAT := hide ha
              have HAR := hide haf.ref
              have hj9 : (i : Int) ≤ 1000 := by have := HS.out.ins; omega
              have i0 : (0 : Int) ≤ (i : Int) := by omega
              have i1 : (i : Int) < (t.iN : Int) := by omega
              have HLT := hide hlt
              clear ha haf hra hd hbw hlt hi
              go_wp2_with fail
              go_loopw [6] (fun kk wr => ∃ k : Nat, k ≤ i ∧ kk = .int .i64 (k : Int) ∧ (∀ q ∈ (t.d.ins.take k).map (·.ref), q.eqb a.ref = false) ∧ Below w3.heap.size w3 wr) (fun kk _ => i - (intOf kk).toNat)
              case atStart => exact ⟨0, by omega, rfl, by simp, HBI.out⟩
              case round =>
                rename World => wk
                obtain ⟨k, hk, rfl, hno, hbw⟩ := hrel
                have HNO := hide hno
                have HBK := hide hbw
                by_cases hlt : k < i
                · obtain ⟨c, hc⟩ : ∃ c, t.ins[k]? = some c := ⟨_, List.getElem?_eq_getElem (by have := HF.out.ins.1; have := HLT.out; omega)⟩
                  have hcf := (HF.out.ins.2.1 c (List.mem_of_getElem? hc)).ref
                  have hb31 : Below w1.heap.size w1 wk := Below.then_ HB3.out hbw
                  have hl1 := loadRef_run wk pa (oa + i * 35) a.ref (by have := InV.range_ref (range_under (HRA.out i a HAT.out) hb31); exact this) HAR.out
                  have hl2' := loadRef_run wk pa (oa + k * 35) c.ref (by have := InV.range_ref (range_under (HRA.out k c hc) hb31); exact this) hcf
                  have hl3 := loadRef_run wk.drew pa (oa + i * 35) a.ref (by have := InV.range_ref (range_under (HRA.out i a HAT.out) hb31); exact this) HAR.out
                  have hl4 := loadRef_run wk.drew pa (oa + k * 35) c.ref (by have := InV.range_ref (range_under (HRA.out k c hc) hb31); exact this) hcf
                  have z1 : wk.cell? ⟨w.heap.size, 1, none⟩ = some (.slice t.iA t.iN t.iC) := (HT.out.under hb31).c1
                  have k0 : (0 : Int) ≤ (k : Int) := by omega
                  have k1 : (k : Int) < (t.iN : Int) := by have := HLT.out; omega
                  have k2 : (k : Int) < (i : Int) := by omega
                  have heq := fun w => eqlRef_run a.ref c.ref HAR.out hcf w
                  obtain ⟨BB, hBB⟩ : ∃ BB, BB = decide (a.ref.id = c.ref.id ∧ a.ref.at_ = c.ref.at_) := ⟨_, rfl⟩
                  rw [← hBB] at heq
                  have HBB := hide (show c.ref.eqb a.ref = BB by rw [hBB, RefD.eqb]; exact decide_eq_decide.2 ⟨fun h => ⟨h.1.symm, h.2.symm⟩, fun h => ⟨h.1.symm, h.2.symm⟩⟩)
                  have HCT := hide (t.at_ k c hc)
                  have HKI := hide hlt
                  rw [hpa] at z1
                  clear hBB hc hcf hno hbw hb31 hlt hk y1
                  cases BB with
                  | true =>
                    have HR := hide (HR1.out.trans (if_pos (by rw [HD.out, hdj.out, any_at (b := a.d) HCT.out HKI.out HBB.out]; rfl)))
                    go_wp2_with fail
                    go_still (by kernel_rfl)
                    change Exit.then _ _ _ _ wk.drew
                    have hfin := hide (HB30.out.trans ((HBK.out.mono HB30.out.size).drew))
                    go_wp2_with fail
                    go_ret
                    exact ⟨by rw [HR.out]; rfl, hfin.out⟩
                  | false =>
                    have HN := hide (none_step HNO.out HCT.out HBB.out)
                    go_wp2_with fail
                    go_still (by kernel_rfl)
                    change Exit.then _ _ _ _ wk.drew
                    have hfin := hide (HBK.out.drew)
                    go_wp2_with fail
                    exact ⟨⟨k + 1, by have := HKI.out; omega, by simp, HN.out, hfin.out⟩, by have := HKI.out; simp [intOf]; omega⟩
                · obtain rfl : k = i := by omega
                  have HDN := hide (show dup [] t.d.ins = dup ((t.d.ins.take (k + 1)).map (·.ref)) (t.d.ins.drop (k + 1)) by rw [HD.out, hdj.out, any_none (b := a.d.ref) HNO.out]; rfl)
                  have kk : ¬ (k : Int) < (k : Int) := by omega
                  clear hno hbw hlt hk
                  go_wp2_with fail
                  refine ⟨?_, by have := HLT.out; simp [intOf]; omega⟩
                  repeat apply Exists.intro
                  exact ⟨⟨k + 1, by have := HLT.out; omega, by simp, by first | exact HDN.out | (rw [← List.map_take]; exact HDN.out), HBK.out⟩, rfl, rfl, rfl, rfl⟩

            · have hje : t.iN = i := by omega
              have hdrop : t.d.ins.drop i = [] := List.drop_of_length_le (by rw [hil.out]; omega)
              rw [hdrop] at HD
              have HR2 := hide (HR1.out.trans (if_neg (by rw [HD.out]; simp [dup])))
              have hjn : ¬ (i : Int) < (t.iN : Int) := by omega
              have HB4 := hide (Below.then_ HB3.out HBI.out)
              have HB40 := hide (Below.then_ HB30.out HBI.out)
              obtain ⟨bb, hbb⟩ : ∃ bb, bb = baseT t.d.ins := ⟨_, rfl⟩
              rw [← hbb] at HR2
              have HBB := hide (show baseT (t.ins.map InV.d) = bb from hbb.symm)
              clear hd hbw hdrop HD HR1 hje hlt hi hbb
              cases bb with
              | true =>
                have HR3 := hide (HR2.out.trans (if_pos rfl))
                have hone : t.iN = 1 := by
                  apply Classical.byContradiction
                  intro h9
                  have h8 := baseT_not t.d.ins (by rw [hil.out]; exact h9)
                  have h7 : baseT t.d.ins = true := HBB.out
                  rw [h8] at h7
                  cases h7
                have HONE := hide hone
                have hone9 : (t.iN : Int) = 1 := by omega
                clear y1
                have y1 := (HT.out.under HB4.out).c1
                go_wp2_with fail
                go_loopw [62] (fun jj wr => ∃ j : Nat, j ≤ 1 ∧ jj = .int .i64 (j : Int) ∧ (j = 1 → checkT t.d = 0) ∧ Below wi.heap.size wi wr) (fun jj _ => 1 - (intOf jj).toNat)
                case atStart => exact ⟨0, by omega, rfl, by simp, Below.refl _ _⟩
                case round =>
                  rename World => wj
                  obtain ⟨j, hj, rfl, hok, hbw⟩ := hrel
                  have HOK := hide hok
                  have HBJ := hide hbw
                  by_cases hlt : j < 1
                  · obtain rfl : j = 0 := by omega
                    obtain ⟨a, ha⟩ : ∃ a, t.ins[0]? = some a := ⟨_, List.getElem?_eq_getElem (by have := HF.out.ins.1; have := HONE.out; omega)⟩
                    have haf := HF.out.ins.2.1 a (List.mem_of_getElem? ha)
                    obtain ⟨pa, oa, hpa, hra⟩ := HF.out.ins.2.2 (by have := HONE.out; omega)
                    have hbj : Below w1.heap.size w1 wj := Below.then_ HB4.out hbw
                    have hld := loadIn_run wj pa oa a (by have := range_under (hra 0 a ha) hbj; simpa using this) haf.ref
                    have la : a.cells.length = 35 := InV.cells_len haf.ref
                    have lz : zeroI.cells.length = 35 := rfl
                    have hI := isIn
                    have HAR := hide haf.ref
                    have KZ := hide (Blk.new wj 60 zeroI.cells)
                    have HBW := hide hbj
                    have hlist : t.ins = [a] := by
                      have hl := HF.out.ins.1
                      rw [HONE.out] at hl
                      match hti : t.ins, hl, ha with
                      | [b], _, ha => simp at ha; rw [ha]
                    have hhead : (t.d.ins.map (fun a => a.unlock.length)).headD 0 = a.n := by
                      show ((t.ins.map InV.d).map (fun a => a.unlock.length)).headD 0 = a.n
                      rw [hlist]
                      show a.bs.length = a.n
                      exact haf.bys.1
                    rw [hhead] at HR3
                    clear ha haf hra hlist hhead hok hbw hbj hlt hj hone HOK
                    rw [hpa]
                    by_cases h5 : a.n < 2
                    · have hc5 : (a.n : Int) < 2 := by omega
                      have HR := hide (HR3.out.trans (if_pos (.inl h5)))
                      clear h5 HR3
                      go_wp2_with (first
                        | (refine wpList_alloc_agg rfl 60 rfl zeroI.cells zeroIn_info ?_; simp only [Act.put, List.setIfInBounds_toArray, List.set_cons_zero, List.set_cons_succ])
                        | (refine wpList_store_blk rfl 60 _ _ rfl wj.heap.size 0 60 zeroI.cells a.cells (by rfl) (by rfl) KZ.out (by rw [lz, la]; decide) (by rw [hI, la]) (InV.one a) ?_; intro w5 o5 z5 b5; rw [lay_all zeroI.cells _ (by rw [lz, la])] at b5; have y33 := InV.c33 b5.whole HAR.out; have HZ5 := hide b5; have hbq : Below wj.heap.size wj w5 := (below_alloc (Below.refl _ wj) (.cells zeroI.cells.toArray 60)).trans (o5.below (by simp [World.size_alloc]) (fun i hi e => by have h9 : i = wj.heap.size := e; omega)); have HW5 := hide (Below.then_ HBW.out hbq); have HJ5 := hide (Below.then_ HBJ.out hbq); have l5 := loadTx_run w5 w.heap.size 0 t (HT.out.under HW5.out).whole; clear o5 z5 b5 hbq hld; simp only [Act.put]))
                      clear l5
                      refine (refTBase_any w5 t (HF.out.below HW5.out) HS.out).mono ?_
                      rintro e w6 ⟨rfl, b6⟩
                      rw [HBB.out]
                      have y33 := cell_under b6 y33
                      have HW6 := hide (Below.then_ HW5.out b6)
                      go_wp2_with fail
                      go_ret
                      exact ⟨by rw [HR.out]; rfl, Below.then_ HB0.out HW6.out⟩
                    · have hc5 : ¬ (a.n : Int) < 2 := by omega
                      by_cases h6 : 100 < a.n
                      · have hc6 : (100 : Int) < (a.n : Int) := by omega
                        have HR := hide (HR3.out.trans (if_pos (.inr h6)))
                        clear h5 h6 HR3
                        go_wp2_with (first
                          | (refine wpList_alloc_agg rfl 60 rfl zeroI.cells zeroIn_info ?_; simp only [Act.put, List.setIfInBounds_toArray, List.set_cons_zero, List.set_cons_succ])
                          | (refine wpList_store_blk rfl 60 _ _ rfl wj.heap.size 0 60 zeroI.cells a.cells (by rfl) (by rfl) KZ.out (by rw [lz, la]; decide) (by rw [hI, la]) (InV.one a) ?_; intro w5 o5 z5 b5; rw [lay_all zeroI.cells _ (by rw [lz, la])] at b5; have y33 := InV.c33 b5.whole HAR.out; have HZ5 := hide b5; have hbq : Below wj.heap.size wj w5 := (below_alloc (Below.refl _ wj) (.cells zeroI.cells.toArray 60)).trans (o5.below (by simp [World.size_alloc]) (fun i hi e => by have h9 : i = wj.heap.size := e; omega)); have HW5 := hide (Below.then_ HBW.out hbq); have HJ5 := hide (Below.then_ HBJ.out hbq); have l5 := loadTx_run w5 w.heap.size 0 t (HT.out.under HW5.out).whole; clear o5 z5 b5 hbq hld; simp only [Act.put]))
                        clear l5
                        refine (refTBase_any w5 t (HF.out.below HW5.out) HS.out).mono ?_
                        rintro e w6 ⟨rfl, b6⟩
                        rw [HBB.out]
                        have y33 := cell_under b6 y33
                        have HW6 := hide (Below.then_ HW5.out b6)
                        go_wp2_with fail
                        go_ret
                        exact ⟨by rw [HR.out]; rfl, Below.then_ HB0.out HW6.out⟩
                      · have hc6 : ¬ (100 : Int) < (a.n : Int) := by omega
                        have HR := hide (HR3.out.trans (if_neg (by rintro (h | h); exact h5 h; exact h6 h)))
                        clear h5 h6 HR3
                        go_wp2_with (first
                          | (refine wpList_alloc_agg rfl 60 rfl zeroI.cells zeroIn_info ?_; simp only [Act.put, List.setIfInBounds_toArray, List.set_cons_zero, List.set_cons_succ])
                          | (refine wpList_store_blk rfl 60 _ _ rfl wj.heap.size 0 60 zeroI.cells a.cells (by rfl) (by rfl) KZ.out (by rw [lz, la]; decide) (by rw [hI, la]) (InV.one a) ?_; intro w5 o5 z5 b5; rw [lay_all zeroI.cells _ (by rw [lz, la])] at b5; have y33 := InV.c33 b5.whole HAR.out; have HZ5 := hide b5; have hbq : Below wj.heap.size wj w5 := (below_alloc (Below.refl _ wj) (.cells zeroI.cells.toArray 60)).trans (o5.below (by simp [World.size_alloc]) (fun i hi e => by have h9 : i = wj.heap.size := e; omega)); have HW5 := hide (Below.then_ HBW.out hbq); have HJ5 := hide (Below.then_ HBJ.out hbq); have l5 := loadTx_run w5 w.heap.size 0 t (HT.out.under HW5.out).whole; clear o5 z5 b5 hbq hld; simp only [Act.put]))
                        clear l5
                        refine (refTBase_any w5 t (HF.out.below HW5.out) HS.out).mono ?_
                        rintro e w6 ⟨rfl, b6⟩
                        rw [HBB.out]
                        have y33 := cell_under b6 y33
                        have HW6 := hide (Below.then_ HW5.out b6)
                        have HJ6 := hide (Below.then_ HJ5.out b6)
                        have l6 := loadTx_run w6 w.heap.size 0 t (HT.out.under HW6.out).whole
                        clear b6
                        go_wp2_with fail
                        refine (refTBase_any w6 t (HF.out.below HW6.out) HS.out).mono ?_
                        rintro e w7 ⟨rfl, b7⟩
                        rw [HBB.out]
                        have HJ7 := hide (Below.then_ HJ6.out b7)
                        clear b7 l6 y33
                        go_wp2_with fail
                        exact ⟨⟨1, by omega, rfl, fun _ => HR.out, HJ7.out⟩, by simp [intOf]⟩
                  · obtain rfl : j = 1 := by omega
                    have hfin := hide (Below.then_ HB40.out hbw)
                    clear hok hbw hlt hj
                    go_wp2_with fail
                    go_ret
                    exact ⟨by rw [HOK.out (by first | rfl | trivial)]; rfl, hfin.out⟩
              | false =>
                have HR3 := hide (HR2.out.trans (if_neg (by simp)))
                clear y1
                have y1 := (HT.out.under HB4.out).c1
                go_wp2_with fail
                go_loopw [62] (fun jj wr => ∃ j : Nat, j ≤ t.iN ∧ jj = .int .i64 (j : Int) ∧ (∀ q ∈ (t.d.ins.take j).map (·.ref), q.eqb nullR = false) ∧ Below wi.heap.size wi wr) (fun jj _ => t.iN - (intOf jj).toNat)
                case atStart => exact ⟨0, by omega, rfl, by simp, Below.refl _ _⟩
                case round =>
                  rename World => wj
                  obtain ⟨j, hj, rfl, hno, hbw⟩ := hrel
                  have HNO := hide hno
                  have HBJ := hide hbw
                  by_cases hlt : j < t.iN
                  · obtain ⟨a, ha⟩ : ∃ a, t.ins[j]? = some a := ⟨_, List.getElem?_eq_getElem (by have := HF.out.ins.1; omega)⟩
                    have haf := HF.out.ins.2.1 a (List.mem_of_getElem? ha)
                    obtain ⟨pa, oa, hpa, hra⟩ := HF.out.ins.2.2 (by omega)
                    have hbj : Below w1.heap.size w1 wj := Below.then_ HB4.out hbw
                    have hld := loadIn_run wj pa (oa + j * 35) a (range_under (hra j a ha) hbj) haf.ref
                    have la : a.cells.length = 35 := InV.cells_len haf.ref
                    have lz : zeroI.cells.length = 35 := rfl
                    have hI := isIn
                    have HAR := hide haf.ref
                    have KZ := hide (Blk.new wj 60 zeroI.cells)
                    have HBW := hide hbj
                    have HAT := hide (t.at_ j a ha)
                    have i0 : (0 : Int) ≤ (j : Int) := by omega
                    have i1 : (j : Int) < (t.iN : Int) := by omega
                    have hj9 : (j : Int) ≤ 1000 := by have := HS.out.ins; omega
                    have HLT := hide hlt
                    obtain ⟨nn, hnn⟩ : ∃ nn, nn = a.ref.eqb nullR := ⟨_, rfl⟩
                    have HNN := hide hnn.symm
                    clear ha haf hra hno hbw hbj hlt hj hnn
                    rw [hpa]
                    go_wp2_with (first
                      | (refine wpList_alloc_agg rfl 60 rfl zeroI.cells zeroIn_info ?_; simp only [Act.put, List.setIfInBounds_toArray, List.set_cons_zero, List.set_cons_succ])
                      | (refine wpList_store_blk rfl 60 _ _ rfl wj.heap.size 0 60 zeroI.cells a.cells (by rfl) (by rfl) KZ.out (by rw [lz, la]; decide) (by rw [hI, la]) (InV.one a) ?_; intro w5 o5 z5 b5; rw [lay_all zeroI.cells _ (by rw [lz, la])] at b5; have y33 := InV.c33 b5.whole HAR.out; have HZ5 := hide b5; have hbq : Below wj.heap.size wj w5 := (below_alloc (Below.refl _ wj) (.cells zeroI.cells.toArray 60)).trans (o5.below (by simp [World.size_alloc]) (fun i hi e => by have h9 : i = wj.heap.size := e; omega)); have HW5 := hide (Below.then_ HBW.out hbq); have HJ5 := hide (Below.then_ HBJ.out hbq); have l5 := loadTx_run w5 w.heap.size 0 t (HT.out.under HW5.out).whole; clear o5 z5 b5 hbq hld; simp only [Act.put]))
                    clear l5
                    refine (refTBase_any w5 t (HF.out.below HW5.out) HS.out).mono ?_
                    rintro e w6 ⟨rfl, b6⟩
                    rw [HBB.out]
                    have HW6 := hide (Below.then_ HW5.out b6)
                    have HJ6 := hide (Below.then_ HJ5.out b6)
                    have HZ6 := hide (HZ5.out.under b6)
                    have l6 := loadTx_run w6 w.heap.size 0 t (HT.out.under HW6.out).whole
                    clear b6 y33
                    go_wp2_with fail
                    refine (refTBase_any w6 t (HF.out.below HW6.out) HS.out).mono ?_
                    rintro e w7 ⟨rfl, b7⟩
                    rw [HBB.out]
                    have HJ7 := hide (Below.then_ HJ6.out b7)
                    have lr := loadRef_run w7 wj.heap.size 0 a.ref (InV.range_ref (HZ6.out.under b7).whole) HAR.out
                    clear b7 l6
                    go_wp2_with fail
                    refine (refnull_any w7 a.ref HAR.out).mono ?_
                    rintro e w8 ⟨rfl, b8⟩
                    rw [HNN.out]
                    have HJ8 := hide (Below.then_ HJ7.out b8)
                    clear b8 lr
                    cases nn with
                    | true =>
                      have HR := hide (HR3.out.trans (if_pos (any_at (b := nullA) HAT.out (Nat.lt_of_lt_of_le HLT.out (Nat.le_refl _)) HNN.out |> fun h => by rw [List.take_of_length_le (by rw [hil.out]; exact Nat.le_refl _)] at h; exact h)))
                      go_wp2_with fail
                      go_ret
                      exact ⟨by rw [HR.out]; rfl, Below.then_ HB40.out HJ8.out⟩
                    | false =>
                      have HN := hide (none_step HNO.out HAT.out HNN.out)
                      go_wp2_with fail
                      exact ⟨⟨j + 1, by have := HLT.out; omega, by simp, HN.out, HJ8.out⟩, by have := HLT.out; simp [intOf]; omega⟩
                  · have hje : t.iN = j := by omega
                    have hall := any_none hno
                    rw [List.take_of_length_le (by rw [hil.out]; omega)] at hall
                    have HR := hide (HR3.out.trans (if_neg (by rw [hall]; decide)))
                    have hjn : ¬ (j : Int) < (t.iN : Int) := by omega
                    have hfin := hide (Below.then_ HB40.out hbw)
                    clear hno hbw hlt hj hje hall
                    go_wp2_with fail
                    go_ret
                    exact ⟨by rw [HR.out]; rfl, hfin.out⟩
        · have hc4 : (sm.2 == 0) = false := by simp [h4]
          have hc4' : (sm.2 != 0) = true := by simp [h4]
          have HR := hide (HR0.out.trans (if_pos h4))
          go_wp2_with fail
          go_ret
          exact ⟨by rw [HR.out]; rfl, Below.then_ HB0.out HB3.out⟩
end Go.Proofs.Ytbpmcnfmgaolnaa
