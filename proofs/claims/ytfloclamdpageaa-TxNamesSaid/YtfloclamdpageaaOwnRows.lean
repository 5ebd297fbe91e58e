/-
  Rows of one's own, of elements of several cells; what an append to them leaves. Rows that came in.
-/
import Derived.Test.YtfloclamdpageaaBytes
namespace Go.Proofs.Ytfloclamdpageaa
open Go.RowKit

/-- w comes of w0, below whose end nothing has turned; v is a row of one's own made since. -/
def MineR (e : TypeId) (k : Nat) (w0 w : World) (v : Value) (n : Nat) (cs : List Value) : Prop :=
  Below w0.heap.size w0 w ∧ w.ownsRow w0.heap.size e k v n cs
section
variable {w0 w w' : World} {e : TypeId} {k n : Nat} {v : Value} {cs : List Value}
theorem MineR.below (h : MineR e k w0 w v n cs) : Below w0.heap.size w0 w := h.1
theorem MineR.nil (hb : Below w0.heap.size w0 w) (e : TypeId) (k : Nat) : MineR e k w0 w (.slice none 0 0) 0 [] := ⟨hb, World.ownsRow_nil w _ e k⟩
theorem MineR.len (h : MineR e k w0 w v n cs) : cs.length = n * k := h.2.1
theorem MineR.keep (h : MineR e k w0 w v n cs) (hb : Below w.heap.size w w') : MineR e k w0 w' v n cs :=
  ⟨h.1.trans (hb.mono h.1.size), (Only.of_below hb (fun _ => False)).own h.2 (fun _ _ hf => hf)⟩
/-- What turns in other blocks than the row's. -/
theorem MineR.only (h : MineR e k w0 w v n cs) {F : Nat → Prop} (ho : Only F w w') (hF : ∀ i, F i → w0.heap.size ≤ i) (hv : ∀ g, v.ownBlock = some g → ¬ F g) : MineR e k w0 w' v n cs :=
  ⟨ho.under h.1 hF, ho.own h.2 hv⟩
theorem MineR.alloc (h : MineR e k w0 w v n cs) (o : Obj) : MineR e k w0 (w.alloc o) v n cs := h.keep ((Below.refl _ w).alloc (Nat.le_refl _) o)
theorem MineR.drew (h : MineR e k w0 w v n cs) : MineR e k w0 w.drew v n cs := ⟨h.1.drew, h.2⟩
theorem MineR.older {wa : World} (h : MineR e k w0 w v n cs) (hb : Below wa.heap.size wa w0) : MineR e k wa w v n cs := by
  refine ⟨Below.then_ hb h.1, h.2.1, ?_⟩
  rcases h.2.2 with h0 | ⟨g, cap, cur, h1, h2, h3⟩
  · exact .inl h0
  · exact .inr ⟨g, cap, cur, h1, Nat.le_trans hb.size h2, h3⟩
/-- The row, read. -/
theorem MineR.rows (h : MineR e k w0 w v n cs) (hk : 0 < k) : ∃ A c, v = .slice A n c ∧ n ≤ c ∧ (∀ ad, A = some ad → w0.heap.size ≤ ad.block) ∧ (0 < n → ∃ g : Nat, A = some ⟨g, 0, none⟩ ∧ g < w.heap.size ∧ w.rangeAt g 0 cs) := by
  rcases h.2.2 with ⟨rfl, h0⟩ | ⟨g, cap, cur, rfl, hb, hh, hnc, hcm, _, htake⟩
  · exact ⟨none, 0, by rw [h0], by omega, (fun _ e => by cases e), fun hn => absurd hn (by omega)⟩
  · refine ⟨_, cap, rfl, hnc, fun ad e => by injection e with e; rw [← e]; exact hb, fun _ => ⟨g, rfl, (Array.getElem?_eq_some_iff.1 hh).1, fun j u hu => ?_⟩⟩
    have hc : Blk w g e cur.toList := by simpa [Blk] using hh
    rw [Nat.zero_add, hc.cell]
    rw [← htake, List.getElem?_take] at hu
    split at hu
    · exact hu
    · cases hu
theorem MineR.block (h : MineR e k w0 w v n cs) : ∀ g, v.ownBlock = some g → w0.heap.size ≤ g ∧ g < w.heap.size := h.2.lt
end
section
variable {P : Program}
/-- An append to a row of one's own. -/
theorem wpList_mineR {w : World} {ops : Array Oper} {rest : List Oper} {o : Oper} {a : Act} {Q : Exit → Act → World → Prop} (hgd : o.guard = none) (s x : Operand) (t : TypeId)
    (ho : o.op = .call { callee := .builtin .append, args := #[s, x], argTypes := #[t, t] })
    (e : TypeId) (k by_ : Nat) (ht : P.underlying t = some (.slice e)) (hi : (P.info? e).map (fun i => (i.size, i.bytes, i.zero.map (fun z => z.cells.size))) = some (k, by_, some k)) (hk : 0 < k)
    (w0 : World) (v : Value) (n : Nat) (cs : List Value) (hs : a.eval s = v) (h : MineR e k w0 w v n cs)
    (b off m c : Nat) (news : List Value) (hx : a.eval x = .slice (some ⟨b, off, none⟩) m c) (hl : news.length = m * k) (hnews : w.rangeAt b off news) (h1 : ∀ u ∈ news, u.oneCell' = true)
    (hbytes : (n + m) * by_ ≤ 140737488355328) (hby : 0 < by_)
    (hK : ∀ A' c' w', MineR e k w0 w' (.slice A' (n + m) c') (n + m) (cs ++ news) → (∀ g, (Value.slice A' (n + m) c').ownBlock = some g → v.ownBlock = some g ∨ w.heap.size ≤ g) → Only (fun i => v.ownBlock = some i) w w' → wpList P ops Q rest (a.put o.dst (.slice A' (n + m) c')) w') : wpList P ops Q (o :: rest) a w := by
  obtain ⟨i, z, hi1, hz, hsz, hbb, hzs⟩ : ∃ i z, P.info? e = some i ∧ i.zero = some z ∧ i.size = k ∧ i.bytes = by_ ∧ z.cells.size = k := by
    cases hq : P.info? e with
    | none => simp [hq] at hi
    | some i =>
      cases hz : i.zero with
      | none => simp [hq, hz] at hi
      | some z =>
        simp [hq, hz] at hi
        exact ⟨i, z, rfl, hz, hi.1, hi.2.1, hi.2.2⟩
  have hn : n + m ≤ 140737488355328 := Nat.le_trans (Nat.le_mul_of_pos_right _ hby) hbytes
  refine wpList_plain hgd fun _ hK' => ?_
  obtain ⟨v', w', hrun, o1, g1, _, hat⟩ := run_append_own_at (P := P) w w0.heap.size t o.type e i z k by_ ht hi1 hz hsz hbb hzs hk v n cs h.2 ⟨b, off, none⟩ m c news hl (fun j u hu => by rw [Addr.add_mid]; exact hnews j u hu) h1 (by simp only [maxLen]; omega) hbytes h.1.size
  have hm : MineR e k w0 w' v' (n + m) (cs ++ news) := ⟨h.1.grown g1 h.1.size (fun g hg => (h.2.lt g hg).1), o1⟩
  obtain ⟨A', c', rfl, _⟩ := hm.rows hk
  unfold Oper.wp execOp
  simp only [ho, resolve, invoke, builtin, Sem.run_bind, Sem.run_pure, Result.andThen_ok, List.map_toArray, List.map_cons, List.map_nil, hs, hx, hrun]
  refine hK' _ _ (hK A' c' w' hm (fun g hg => ?_) ((Only.refl _ w).grown g1 (fun g hg => .inr hg)))
  rcases hat with h1 | h1
  · left; rw [← h1]; exact hg
  · right; rw [h1] at hg; injection hg with hg; omega
end
/-! ### Rows that came in -/
/-- A slice whose elements, of k cells each, read as xs. -/
def RowsIn {α : Type} (cells : α → List Value) (k : Nat) (fine : World → α → Prop) (w : World) (A : Option Addr) (n : Nat) (xs : List α) : Prop :=
  xs.length = n ∧ (∀ a ∈ xs, fine w a) ∧ (0 < n → ∃ b off : Nat, A = some ⟨b, off, none⟩ ∧ ∀ (i : Nat) (a : α), xs[i]? = some a → w.rangeAt b (off + i * k) (cells a))
theorem range_under {w w' : World} {b o : Nat} {cs : List Value} (h : w.rangeAt b o cs) (hb : Below w.heap.size w w') : w'.rangeAt b o cs := fun j v hv => cell_under hb (h j v hv)
theorem range_only {w w' : World} {b o : Nat} {cs : List Value} {F : Nat → Prop} (h : w.rangeAt b o cs) (ho : Only F w w') (hF : ¬ F b) : w'.rangeAt b o cs := fun j v hv => by
  have h1 := h j v hv
  exact (World.cell?_of_block (w := w) (ho.block b (World.block_lt_of_cell? w _ h1) hF)).trans h1
theorem RowsIn.below {α : Type} {cells : α → List Value} {k : Nat} {fine : World → α → Prop} {w w' : World} {A : Option Addr} {n : Nat} {xs : List α} (h : RowsIn cells k fine w A n xs) (hb : Below w.heap.size w w')
    (hf : ∀ a, fine w a → fine w' a) : RowsIn cells k fine w' A n xs := by
  refine ⟨h.1, fun a ha => hf a (h.2.1 a ha), fun hn => ?_⟩
  obtain ⟨b, off, hA, hr⟩ := h.2.2 hn
  exact ⟨b, off, hA, fun i a ha => range_under (hr i a ha) hb⟩
theorem RowsIn.nil {α : Type} (cells : α → List Value) (k : Nat) (fine : World → α → Prop) (w : World) (A : Option Addr) : RowsIn cells k fine w A 0 [] := ⟨rfl, by simp, fun h => absurd h (by omega)⟩
end Go.Proofs.Ytfloclamdpageaa
