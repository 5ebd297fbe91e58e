import Derived.Test.YtbpmcnfmgaolnaaPk10
import Derived.Test.YtbpmcnfmgaolnaaPk11
/-
  What is signed: plain; rows of Ins of one's own, changed in place; the program's Hash.
-/
namespace Go.Proofs.Ytbpmcnfmgaolnaa
open Go.RowKit

/-- What is signed of an In. -/
def InD.bare (a : InD) (k : Nat) (i : Int) (lock : List Int) : InD := ⟨a.ref, if (k : Int) = i then lock else [], a.order⟩
def signT (t : TxD) (i : Int) (lock : List Int) : TxD := ⟨t.version, t.ins.mapIdx fun k a => a.bare k i lock, t.outs, t.until_⟩
def hashT (t : TxD) (i : Int) (lock : List Int) : List Int := sha2 ((signT t i lock).bytes ++ dig (i % 4294967296).toNat 4)
theorem hashT_len (t : TxD) (i : Int) (lock : List Int) : (hashT t i lock).length = 32 := sha2_len _
/-- In memory: its unlock another. -/
def InV.with (a : InV) (B : Option Addr) (m d : Nat) (bs : List Int) : InV := ⟨a.ref, B, m, d, bs, a.order⟩
theorem InV.with_cells (a : InV) (h : a.ref.Fine) (B : Option Addr) (m d : Nat) (bs : List Int) : (a.with B m d bs).cells = a.cells.set 33 (.slice B m d) := by
  simp only [InV.with, InV.cells]
  rw [List.set_append_right _ _ (by rw [RefD.cells_len h]; exact Nat.le_refl _), RefD.cells_len h]
  rfl
theorem flatMap_set {α : Type} (f : α → List Value) (K : Nat) : ∀ (xs : List α) (k j : Nat) (a a' : α) (v : Value), (∀ x ∈ xs, (f x).length = K) → xs[k]? = some a → j < K → f a' = (f a).set j v → (xs.flatMap f).set (k * K + j) v = (xs.set k a').flatMap f
  | [], k, j, a, a', v, _, h, _, _ => by simp at h
  | x :: xs, 0, j, a, a', v, hl, h, hj, hf => by
    simp at h; subst h
    rw [List.flatMap_cons, List.set_cons_zero, List.flatMap_cons, Nat.zero_mul, Nat.zero_add, List.set_append_left _ _ (by rw [hl x (by simp)]; exact hj), hf]
  | x :: xs, k + 1, j, a, a', v, hl, h, hj, hf => by
    simp at h
    rw [List.flatMap_cons, List.set_cons_succ, List.flatMap_cons, List.set_append_right _ _ (by rw [hl x (by simp), Nat.succ_mul]; omega), hl x (by simp)]
    rw [show (k + 1) * K + j - K = k * K + j by rw [Nat.succ_mul]; omega]
    rw [flatMap_set f K xs k j a a' v (fun y hy => hl y (by simp [hy])) h hj hf]
/-- A block whose beginning is a row. -/
def RowB (w : World) (g : Nat) (e : TypeId) (cs : List Value) : Prop := ∃ l, Blk w g e l ∧ l.take cs.length = cs
theorem RowB.cell {w : World} {g : Nat} {e : TypeId} {cs : List Value} (h : RowB w g e cs) (i : Nat) (v : Value) (hv : cs[i]? = some v) : w.cell? ⟨g, i, none⟩ = some v := by
  obtain ⟨l, hb, ht⟩ := h
  rw [hb.cell]
  have hi : i < cs.length := (List.getElem?_eq_some_iff.1 hv).1
  rw [← ht, List.getElem?_take, if_pos hi] at hv
  exact hv
theorem RowB.frozen {w : World} {g : Nat} {e : TypeId} {cs : List Value} (h : RowB w g e cs) (i : Nat) : w.frozen? ⟨g, i, none⟩ = false := by
  obtain ⟨l, hb, _⟩ := h
  exact hb.frozen i
theorem RowB.set_ {w : World} {g : Nat} {e : TypeId} {cs : List Value} (h : RowB w g e cs) (i : Nat) (v : Value) : RowB (w.setCell ⟨g, i, none⟩ v) g e (cs.set i v) := by
  obtain ⟨l, hb, ht⟩ := h
  refine ⟨l.set i v, hb.set_ i v, ?_⟩
  rw [List.length_set, List.take_set, ht]
theorem RowB.range {w : World} {g : Nat} {e : TypeId} {cs : List Value} (h : RowB w g e cs) : w.rangeAt g 0 cs := fun j v hv => by
  rw [Nat.zero_add]; exact h.cell j v hv
theorem RowB.under {w w' : World} {g : Nat} {e : TypeId} {cs : List Value} (h : RowB w g e cs) (hb : Below w.heap.size w w') : RowB w' g e cs := by
  obtain ⟨l, hbk, ht⟩ := h
  exact ⟨l, hbk.under hb, ht⟩
theorem RowB.only {w w' : World} {g : Nat} {e : TypeId} {cs : List Value} {F : Nat → Prop} (h : RowB w g e cs) (ho : Only F w w') (hg : ¬ F g) : RowB w' g e cs := by
  obtain ⟨l, hbk, ht⟩ := h
  exact ⟨l, ho.blk hbk hg, ht⟩
theorem RowB.lt {w : World} {g : Nat} {e : TypeId} {cs : List Value} (h : RowB w g e cs) : g < w.heap.size := by
  obtain ⟨l, hbk, _⟩ := h
  exact hbk.lt
section
variable {P : Program}
/-- An append to a row of one's own, of a slice at any address. -/
theorem wpList_mineRa {w : World} {ops : Array Oper} {rest : List Oper} {o : Oper} {a : Act} {Q : Exit → Act → World → Prop} (hgd : o.guard = none) (s x : Operand) (t : TypeId)
    (ho : o.op = .call { callee := .builtin .append, args := #[s, x], argTypes := #[t, t] })
    (e : TypeId) (k by_ : Nat) (ht : P.underlying t = some (.slice e)) (hi : (P.info? e).map (fun i => (i.size, i.bytes, i.zero.map (fun z => z.cells.size))) = some (k, by_, some k)) (hk : 0 < k)
    (w0 : World) (v : Value) (n : Nat) (cs : List Value) (hs : a.eval s = v) (h : MineR e k w0 w v n cs)
    (ad : Addr) (m c : Nat) (news : List Value) (hx : a.eval x = .slice (some ad) m c) (hl : news.length = m * k) (hnews : ∀ (j : Nat) (u : Value), news[j]? = some u → w.cell? (ad.add j) = some u) (h1 : ∀ u ∈ news, u.oneCell' = true)
    (hbytes : (n + m) * by_ ≤ 140737488355328) (hby : 0 < by_)
    (hK : ∀ A' c' w', MineR e k w0 w' (.slice A' (n + m) c') (n + m) (cs ++ news) → (∀ g, (Value.slice A' (n + m) c').ownBlock = some g → v.ownBlock = some g ∨ w.heap.size ≤ g) → Only (fun i => v.ownBlock = some i) w w' → wpList P ops Q rest (a.put o.dst (.slice A' (n + m) c')) w') : wpList P ops Q (o :: rest) a w := by
  obtain ⟨i, z, hi1, hz, hsz, hbb, hzs⟩ : ∃ i z, P.info? e = some i ∧ i.zero = some z ∧ i.size = k ∧ i.bytes = by_ ∧ z.cells.size = k := by
    cases hq : P.info? e with
    | none => simp [hq] at hi
    | some i =>
      cases hz : i.zero with
      | none => simp [hq, hz] at hi
      | some z =>
        simp [hq, hz] at hi
        exact ⟨i, z, rfl, hz, hi.1, hi.2.1, hi.2.2⟩
  have hn : n + m ≤ 140737488355328 := Nat.le_trans (Nat.le_mul_of_pos_right _ hby) hbytes
  refine wpList_plain hgd fun _ hK' => ?_
  obtain ⟨v', w', hrun, o1, g1, _, hat⟩ := run_append_own_at (P := P) w w0.heap.size t o.type e i z k by_ ht hi1 hz hsz hbb hzs hk v n cs h.2 ad m c news hl hnews h1 (by simp only [maxLen]; omega) hbytes h.1.size
  have hm : MineR e k w0 w' v' (n + m) (cs ++ news) := ⟨h.1.grown g1 h.1.size (fun g hg => (h.2.lt g hg).1), o1⟩
  obtain ⟨A', c', rfl, _⟩ := hm.rows hk
  unfold Oper.wp execOp
  simp only [ho, resolve, invoke, builtin, Sem.run_bind, Sem.run_pure, Result.andThen_ok, List.map_toArray, List.map_cons, List.map_nil, hs, hx, hrun]
  refine hK' _ _ (hK A' c' w' hm (fun g hg => ?_) ((Only.refl _ w).grown g1 (fun g hg => .inr hg)))
  rcases hat with h1 | h1
  · left; rw [← h1]; exact hg
  · right; rw [h1] at hg; injection hg with hg; omega
end
/-- The row of one's own, as a block. -/
theorem MineR.rowB {e : TypeId} {k : Nat} {w0 w : World} {A : Option Addr} {n c : Nat} {cs : List Value} (h : MineR e k w0 w (.slice A n c) n cs) (hn : 0 < n) : ∃ g : Nat, A = some ⟨g, 0, none⟩ ∧ w0.heap.size ≤ g ∧ RowB w g e cs := by
  rcases h.2.2 with ⟨_, h0⟩ | ⟨g, cap, cur, e1, hb, hh, hnc, hcm, _, htake⟩
  · omega
  · injection e1 with e1 _ _
    have hc : Blk w g e cur.toList := by simpa [Blk] using hh
    exact ⟨g, e1, hb, cur.toList, hc, by rw [h.2.1]; exact htake⟩
theorem MineR.empty {w : World} {e : TypeId} {k : Nat} (cs : List Value) (h0 : cs = []) : MineR e k w (w.alloc (.cells cs.toArray e)) (.slice (some ⟨w.heap.size, 0, none⟩) 0 0) 0 [] := by
  subst h0
  refine ⟨(Below.refl _ w).alloc (Nat.le_refl _) _, by simp, .inr ⟨w.heap.size, 0, #[], rfl, Nat.le_refl _, heap_alloc_new w _, Nat.le_refl _, by simp [maxLen], by simp, by simp⟩⟩
def ClonePost (w : World) (n : Nat) (cs : List Value) (e : Ending) (w' : World) : Prop :=
  ∃ A' c', e = .returned (.slice A' n c') ∧ n ≤ c' ∧ Below w.heap.size w w' ∧ ∃ g : Nat, w.heap.size ≤ g ∧ (0 < n → A' = some ⟨g, 0, none⟩ ∧ RowB w' g 60 cs)
theorem ClonePost.of {w w' : World} {A : Option Addr} {n c : Nat} {cs : List Value} (h : MineR 60 35 w w' (.slice A n c) n cs) : ClonePost w n cs (.returned (.slice A n c)) w' := by
  obtain ⟨A1, c1, e1, hc, _, _⟩ := h.rows (by decide)
  injection e1 with e1 _ e3
  subst e1
  subst e3
  refine ⟨A, c, rfl, hc, h.below, ?_⟩
  rcases Nat.eq_zero_or_pos n with h0 | h0
  · exact ⟨w.heap.size, Nat.le_refl _, fun h => absurd h (by omega)⟩
  · obtain ⟨g, h1, h2, h3⟩ := h.rowB h0
    exact ⟨g, h2, fun _ => ⟨h1, h3⟩⟩
theorem eql_nilI (w : World) (a : Option Addr) (n c n' c' : Nat) : (binOp .eql 34 (.slice a n c) (.slice none n' c')).run Try.prog w = .ok (.bool a.isNone) w :=
  Lib.run_eql_slice_nil w _ _ a n c n' c' Try.underlying34
set_option maxHeartbeats 400000 in
set_option maxRecDepth 100000 in
theorem cloneIn_any (w : World) (A : Option Addr) (n c : Nat) (xs : List InV) (hX : InsIn w A n xs) (hn : n ≤ 1000) :
    Calls Try.prog 110 #[.slice A n c] w (ClonePost w n (xs.flatMap InV.cells)) := by
  have HN := hide hn
  clear hn
  have q24 := eql_nilI
  cases A with
  | none =>
    have h0 : n = 0 := by
      rcases Nat.eq_zero_or_pos n with h1 | h1
      · exact h1
      · obtain ⟨_, _, h2, _⟩ := hX.2.2 h1; cases h2
    subst h0
    go_enter Try.func110, Try.ntmps110
    go_wp2
    go_ret
    exact ⟨none, 0, rfl, Nat.le_refl _, Below.refl _ _, w.heap.size, Nat.le_refl _, fun h => absurd h (by omega)⟩
  | some a =>
    have hlen : (xs.flatMap InV.cells).length = n * 35 := by
      rw [← hX.1]
      have : ∀ l : List InV, (∀ a ∈ l, a.ref.Fine) → (l.flatMap InV.cells).length = l.length * 35 := by
        intro l
        induction l with
        | nil => intro _; simp
        | cons x l ih => intro h; rw [List.flatMap_cons, List.length_append, ih (fun y hy => h y (by simp [hy])), InV.cells_len (h x (by simp)), List.length_cons]; omega
      exact this xs fun a ha => (hX.2.1 a ha).ref
    have hone : ∀ u ∈ xs.flatMap InV.cells, u.oneCell' = true := fun u hu => by
      obtain ⟨a, _, h2⟩ := List.mem_flatMap.1 hu
      exact InV.one a u h2
    have hnews : ∀ (j : Nat) (u : Value), (xs.flatMap InV.cells)[j]? = some u → w.cell? (a.add j) = some u := by
      intro j u hu
      have hj : j < n * 35 := by have := (List.getElem?_eq_some_iff.1 hu).1; omega
      obtain ⟨b, off, h2, h3⟩ := hX.2.2 (by omega)
      injection h2 with h2
      subst h2
      rw [Addr.add_mid]
      have hi : j / 35 < xs.length := by rw [hX.1]; omega
      have h4 := h3 (j / 35) _ (List.getElem?_eq_getElem hi)
      have key : ∀ (ys : List InV) (i : Nat), (∀ a ∈ ys, a.ref.Fine) → (hi : i < ys.length) → ∀ k, k < 35 → (ys.flatMap InV.cells)[i * 35 + k]? = (ys[i]).cells[k]? := by
        intro ys
        induction ys with
        | nil => intro i _ h; simp at h
        | cons y ys ih =>
          intro i hf hi k hk
          have hy := InV.cells_len (hf y (by simp))
          cases i with
          | zero => rw [List.flatMap_cons, List.getElem?_append_left (by omega)]; simp
          | succ i =>
            rw [List.flatMap_cons, List.getElem?_append_right (by omega), hy, show (i + 1) * 35 + k - 35 = i * 35 + k by omega]
            rw [ih i (fun a ha => hf a (by simp [ha])) (by simp at hi; omega) k hk]
            simp
      have h5 := key xs (j / 35) (fun a ha => (hX.2.1 a ha).ref) hi (j % 35) (by omega)
      rw [show j / 35 * 35 + j % 35 = j by omega, hu] at h5
      have h6 := h4 (j % 35) u h5.symm
      rw [show off + j / 35 * 35 + j % 35 = off + j by omega] at h6
      exact h6
    have H1 := hide hlen
    have H2 := hide hone
    have H3 := hide hnews
    clear hlen hone hnews
    have HB := hide (show Below w.heap.size w (w.alloc (.cells #[] 60)) from (Below.refl _ w).alloc (Nat.le_refl _) _)
    go_enter Try.func110, Try.ntmps110
    go_wp2_with (at_builtin; refine wpList_mineRa rfl _ _ 34 rfl 60 35 72 Try.underlying34 in_infoR (by decide) w _ 0 [] (by rfl) (MineR.empty [] rfl) a n c (xs.flatMap InV.cells) (by rfl) H1.out (fun j u hu => cell_under HB.out (H3.out j u hu)) H2.out (by have := HN.out; omega) (by decide) ?_; intro A' c' w' q1 q2 q3)
    go_wp2
    go_ret
    simp only [Nat.zero_add, List.nil_append] at q1 ⊢
    refine ClonePost.of q1
end Go.Proofs.Ytbpmcnfmgaolnaa
