/-
  A transaction, read: plain functions, no program in sight; and rows of one's own that are appended to at a step of a drawn region.
-/
import Derived.Test.YtfloclamdpageaaTxA
namespace Go.Proofs.Ytfloclamdpageaa
open Go.RowKit

def Rd.inn (r : Rd) : InD × Rd :=
  let a := r.ref
  let b := a.2.text 2000
  let c := b.2.fixed 4
  (⟨a.1, b.1, (c.1 : Int)⟩, c.2)
/-- So many, one behind the other. -/
def Rd.rep {α : Type} (f : Rd → α × Rd) : Nat → Rd → List α × Rd
  | 0, r => ([], r)
  | n + 1, r => ((Rd.rep f n r).1 ++ [(f (Rd.rep f n r).2).1], (f (Rd.rep f n r).2).2)
def zeroT : TxD := ⟨0, [], [], 0⟩
def Rd.txRaw (r : Rd) : TxD × Rd :=
  let v := r.fixed 4
  let ni := v.2.count 200
  let ins := Rd.rep Rd.inn ni.1 ni.2
  let no := ins.2.count 200
  let outs := Rd.rep Rd.out no.1 no.2
  let u := outs.2.fixed 4
  (⟨(v.1 : Int), ins.1, outs.1, (u.1 : Int)⟩, u.2)
def Rd.tx (r : Rd) : TxD × Rd := if r.txRaw.2.err ≠ 0 then (zeroT, r.txRaw.2) else r.txRaw
theorem rep_len {α : Type} (f : Rd → α × Rd) : ∀ (n : Nat) (r : Rd), (Rd.rep f n r).1.length = n
  | 0, _ => rfl
  | n + 1, r => by rw [Rd.rep]; simp [rep_len f n r]
theorem txRaw_eq (r : Rd) (V : Nat) (r1 : Rd) (N : Nat) (r2 : Rd) (M : Nat) (r4 : Rd) (U : Nat) (r6 : Rd) (h1 : r.fixed 4 = (V, r1)) (h2 : r1.count 200 = (N, r2)) (h4 : (Rd.rep Rd.inn N r2).2.count 200 = (M, r4)) (h6 : (Rd.rep Rd.out M r4).2.fixed 4 = (U, r6)) :
    r.txRaw = (⟨(V : Int), (Rd.rep Rd.inn N r2).1, (Rd.rep Rd.out M r4).1, (U : Int)⟩, r6) := by
  simp only [Rd.txRaw, h1, h2, h4, h6]
/-! ### What stays fine whatever turns in F -/
def KeepI (w : World) (a : InV) (F : Nat → Prop) : Prop := ∀ w', Only F w w' → a.Fine w'
def KeepO (w : World) (a : OutV) (F : Nat → Prop) : Prop := ∀ w', Only F w w' → a.Fine w'
theorem KeepI.step {w w' : World} {a : InV} {F F' : Nat → Prop} (h : KeepI w a F) (ho : Only F w w') (hF : ∀ i, i < w.heap.size → F' i → F i) : KeepI w' a F' := fun w'' h2 => h w'' (ho.trans h2 hF)
theorem KeepO.step {w w' : World} {a : OutV} {F F' : Nat → Prop} (h : KeepO w a F) (ho : Only F w w') (hF : ∀ i, i < w.heap.size → F' i → F i) : KeepO w' a F' := fun w'' h2 => h w'' (ho.trans h2 hF)
theorem KeepI.fine {w : World} {a : InV} {F : Nat → Prop} (h : KeepI w a F) : a.Fine w := h w (Only.refl _ _)
theorem KeepO.fine {w : World} {a : OutV} {F : Nat → Prop} (h : KeepO w a F) : a.Fine w := h w (Only.refl _ _)
theorem KeepI.mk {w : World} {a : InV} {F : Nat → Prop} (h : a.Fine w) (ha : Apart a.A a.n F) : KeepI w a F := fun _ ho => ⟨h.ref, h.bys.keep ho ha, h.cap, h.order⟩
theorem KeepO.mk {w : World} {a : OutV} {F : Nat → Prop} (h : a.Fine w) (ha : Apart a.A a.n F) : KeepO w a F := fun _ ho => ⟨h.v, h.bys.keep ho ha, h.cap⟩
/-! ### Rows of one's own -/
section
variable {P : Program}
/-- An append to a row of one's own, at a step of a region that draws its order. -/
theorem step_row {w : World} {ops : Array Oper} {o : Oper} {a : Act} {K : Act → World → Prop} {Q : Exit → Act → World → Prop} {E : Prop} (hgd : o.guard = none) (d : Nat) (hd : o.dst = some d) (s x : Operand) (t : TypeId)
    (ho : o.op = .call { callee := .builtin .append, args := #[s, x], argTypes := #[t, t] })
    (e : TypeId) (k by_ : Nat) (ht : P.underlying t = some (.slice e)) (hi : (P.info? e).map (fun i => (i.size, i.bytes, i.zero.map (fun z => z.cells.size))) = some (k, by_, some k)) (hk : 0 < k)
    (base : Nat) (v : Value) (n : Nat) (cs : List Value) (hs : a.eval s = v) (h : w.ownsRow base e k v n cs) (hbase : base ≤ w.heap.size)
    (b off m c : Nat) (news : List Value) (hx : a.eval x = .slice (some ⟨b, off, none⟩) m c) (hl : news.length = m * k) (hnews : w.rangeAt b off news) (h1 : ∀ u ∈ news, u.oneCell' = true)
    (hbytes : (n + m) * by_ ≤ 140737488355328) (hby : 0 < by_)
    (hK : ∀ A' c' w', w'.ownsRow base e k (.slice A' (n + m) c') (n + m) (cs ++ news) → n + m ≤ c' → (∀ g, (Value.slice A' (n + m) c').ownBlock = some g → v.ownBlock = some g ∨ w.heap.size ≤ g) → Only (fun i => v.ownBlock = some i) w w' → K (a.put (some d) (.slice A' (n + m) c')) w') :
    if Region.wanted o (yielded ops a.tmps) = true then Oper.wp P o a w K Q else E := by
  have hw : Region.wanted o (yielded ops a.tmps) = true := by simp [Region.wanted, hgd]
  rw [if_pos hw]
  rw [← hd] at hK
  obtain ⟨i, z, hi1, hz, hsz, hbb, hzs⟩ : ∃ i z, P.info? e = some i ∧ i.zero = some z ∧ i.size = k ∧ i.bytes = by_ ∧ z.cells.size = k := by
    cases hq : P.info? e with
    | none => simp [hq] at hi
    | some i =>
      cases hz : i.zero with
      | none => simp [hq, hz] at hi
      | some z =>
        simp [hq, hz] at hi
        exact ⟨i, z, rfl, hz, hi.1, hi.2.1, hi.2.2⟩
  have hn : n + m ≤ 140737488355328 := Nat.le_trans (Nat.le_mul_of_pos_right _ hby) hbytes
  obtain ⟨v', w', hrun, o1, g1, _, hat⟩ := run_append_own_at (P := P) w base t o.type e i z k by_ ht hi1 hz hsz hbb hzs hk v n cs h ⟨b, off, none⟩ m c news hl (fun j u hu => by rw [Addr.add_mid]; exact hnews j u hu) h1 (by simp only [maxLen]; omega) hbytes hbase
  obtain ⟨A', c', rfl, hc⟩ : ∃ A' c', v' = .slice A' (n + m) c' ∧ n + m ≤ c' := by
    rcases o1.2 with ⟨rfl, h0⟩ | ⟨g, cap, cur, rfl, _, _, hnc, _⟩
    · exact ⟨none, 0, by rw [h0], by omega⟩
    · exact ⟨_, cap, rfl, hnc⟩
  unfold Oper.wp execOp
  simp only [ho, resolve, invoke, builtin, Sem.run_bind, Sem.run_pure, Result.andThen_ok, List.map_toArray, List.map_cons, List.map_nil, hs, hx, hrun]
  refine hK A' c' w' o1 hc (fun g hg => ?_) ((Only.refl _ w).grown g1 (fun g hg => .inr hg))
  rcases hat with h1 | h1
  · left; rw [← h1]; exact hg
  · right; rw [h1] at hg; injection hg with hg; omega
end
theorem in_infoR : (Try.prog.info? 68).map (fun i => (i.size, i.bytes, i.zero.map (fun z => z.cells.size))) = some (35, 72, some 35) := by kernel_rfl
theorem out_infoR : (Try.prog.info? 24).map (fun i => (i.size, i.bytes, i.zero.map (fun z => z.cells.size))) = some (2, 32, some 2) := by kernel_rfl
/-- A row, read as elements. -/
theorem rows_of {α : Type} {cells : α → List Value} {k : Nat} {fine : World → α → Prop} {w : World} {base : Nat} {e : TypeId} {A : Option Addr} {n c : Nat} {xs : List α} (hl : xs.length = n) (hk : ∀ a ∈ xs, (cells a).length = k)
    (h : w.ownsRow base e k (.slice A n c) n (xs.flatMap cells)) (hf : ∀ a ∈ xs, fine w a) : RowsIn cells k fine w A n xs := by
  refine ⟨hl, hf, fun hn => ?_⟩
  rcases h.2 with ⟨_, h0⟩ | ⟨g, cap, cur, e1, _, hh, hnc, hcm, _, htake⟩
  · omega
  · injection e1 with e1 _ _
    refine ⟨g, 0, e1, fun i a ha j u hu => ?_⟩
    have hc : Blk w g e cur.toList := by simpa [Blk] using hh
    rw [hc.cell]
    have key : ∀ (ys : List α) (i : Nat) (a : α), (∀ a ∈ ys, (cells a).length = k) → ys[i]? = some a → ∀ j u, (cells a)[j]? = some u → (ys.flatMap cells)[i * k + j]? = some u := by
      intro ys
      induction ys with
      | nil => intro i a _ h; simp at h
      | cons y ys ih =>
        intro i a hk h j u hu
        have hy := hk y (by simp)
        rcases i with _ | i
        · simp at h
          subst h
          rw [List.flatMap_cons, List.getElem?_append_left (by have := (List.getElem?_eq_some_iff.1 hu).1; omega)]
          simpa using hu
        · simp at h
          rw [List.flatMap_cons, List.getElem?_append_right (by rw [hy, Nat.succ_mul]; omega), hy]
          rw [show (i + 1) * k + j - k = i * k + j by rw [Nat.succ_mul]; omega]
          exact ih i a (fun b hb => hk b (by simp [hb])) h j u hu
    have := key xs i a hk ha j u hu
    rw [← htake, List.getElem?_take] at this
    rw [Nat.zero_add]
    split at this
    · exact this
    · cases this
end Go.Proofs.Ytfloclamdpageaa
