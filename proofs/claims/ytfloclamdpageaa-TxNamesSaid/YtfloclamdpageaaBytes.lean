/-
  Slices of bytes that may be appended to; what an append leaves.
-/
import Derived.Test.YtfloclamdpageaaBase
namespace Go.Proofs.Ytfloclamdpageaa
open Go.RowKit

def bcs (bs : List Int) : List Value := bs.map (Value.int .u8 ·)
theorem bcs_length (bs : List Int) : (bcs bs).length = bs.length := by simp [bcs]
theorem bcs_append (a b : List Int) : bcs (a ++ b) = bcs a ++ bcs b := by simp [bcs]
theorem bcs_one (bs : List Int) : ∀ v ∈ bcs bs, v.oneCell' = true := by
  intro v hv
  simp only [bcs, List.mem_map] at hv
  obtain ⟨x, _, rfl⟩ := hv
  rfl
def Byt (bs : List Int) : Prop := ∀ x ∈ bs, 0 ≤ x ∧ x ≤ 255
/-- A slice of bytes onto which one may append: a row of one's own (G: its block), or one that is full. -/
def Tail (w : World) (e : TypeId) (v : Value) (bs : List Int) (G : Nat → Prop) : Prop :=
  Byt bs ∧ ((w.ownsRow 0 e 1 v bs.length (bcs bs) ∧ G = fun i => v.ownBlock = some i) ∨
    (∃ A, v = .slice A bs.length bs.length ∧ Bys w A bs.length bs ∧ G = fun _ => False))
theorem own_read {w : World} {base : Nat} {e : TypeId} {v : Value} {bs : List Int} (h : w.ownsRow base e 1 v bs.length (bcs bs)) (hb : Byt bs) :
    ∃ A c, v = .slice A bs.length c ∧ Bys w A bs.length bs ∧ bs.length ≤ c ∧ c ≤ maxLen := by
  rcases h.2 with ⟨rfl, h0⟩ | ⟨g, cap, cur, rfl, _, hh, hnc, hcm, _, htake⟩
  · refine ⟨none, 0, by rw [h0], ⟨rfl, hb, fun hn => absurd hn (by omega)⟩, by omega, Nat.zero_le _⟩
  · refine ⟨_, cap, rfl, ⟨rfl, hb, fun _ => ⟨g, 0, rfl, fun j v hv => ?_⟩⟩, hnc, hcm⟩
    have hc : Blk w g e cur.toList := by simpa [Blk] using hh
    rw [Nat.zero_add, hc.cell]
    have : (bcs bs)[j]? = some (.int .u8 v) := by simp [bcs, hv]
    rw [← htake, List.getElem?_take] at this
    split at this
    · exact this
    · cases this
theorem Tail.read {w : World} {e : TypeId} {v : Value} {bs : List Int} {G : Nat → Prop} (h : Tail w e v bs G) : ∃ A c, v = .slice A bs.length c ∧ Bys w A bs.length bs ∧ bs.length ≤ c := by
  rcases h.2 with ⟨ho, _⟩ | ⟨A, hv, hB, _⟩
  · obtain ⟨A, c, h1, h2, h3, _⟩ := own_read ho h.1
    exact ⟨A, c, h1, h2, h3⟩
  · exact ⟨A, _, hv, hB, Nat.le_refl _⟩
theorem own_weak {w : World} {base : Nat} {e : TypeId} {size n : Nat} {v : Value} {xs : List Value} (h : w.ownsRow base e size v n xs) : w.ownsRow 0 e size v n xs := by
  refine ⟨h.1, ?_⟩
  rcases h.2 with h0 | ⟨g, cap, cur, h1, _, h3⟩
  · exact .inl h0
  · exact .inr ⟨g, cap, cur, h1, Nat.zero_le _, h3⟩
section
variable {P : Program}
theorem run_append_none (w : World) (t ty e : TypeId) (i : TypeInfo) (ht : P.underlying t = some (.slice e)) (hi : P.info? e = some i) (A B : Option Addr) (n cap c : Nat) (hn : n ≤ cap) :
    (Builtin.append_ #[t, t] ty #[.slice A n cap, .slice B 0 c]).run P w = .ok (.slice A n cap) w := by
  cases A <;> cases B <;> simp [Builtin.append_, run_underlying ht, sizeOf, typeInfo, hi, Builtin.lenOf, Builtin.firstCells, loadCells, loadCellsFrom, hn, storeCells]
theorem run_append_tail (w : World) (t ty e : TypeId) (i : TypeInfo) (z : Value) (ht : P.underlying t = some (.slice e)) (hi : P.info? e = some i) (hz : i.zero = some z) (hs : i.size = 1) (hby : i.bytes = 1) (hzs : z.cells.size = 1)
    (v : Value) (bs : List Int) (G : Nat → Prop) (h : Tail w e v bs G) (B : Option Addr) (m c : Nat) (cs : List Int) (hB : Bys w B m cs) (hlen : bs.length + m ≤ 140737488355328) :
    ∃ v' G' w', (Builtin.append_ #[t, t] ty #[v, .slice B m c]).run P w = .ok v' w' ∧ Tail w' e v' (bs ++ cs) G' ∧ Only G w w' ∧ (∀ i, G' i → G i ∨ w.heap.size ≤ i) ∧ ((m = 0 ∧ v' = v) ∨ ∀ i, v'.ownBlock = some i → G' i) := by
  have hbyt : Byt (bs ++ cs) := fun x hx => by
    rcases List.mem_append.1 hx with h1 | h1
    · exact h.1 x h1
    · exact hB.2.1 x h1
  rcases Nat.eq_zero_or_pos m with h0 | hm
  · subst h0
    have hcs : cs = [] := List.eq_nil_of_length_eq_zero hB.1
    subst hcs
    obtain ⟨A, cap, rfl, _, hcap⟩ := h.read
    refine ⟨_, G, w, run_append_none w t ty e i ht hi A B _ cap c hcap, by rw [List.append_nil]; exact h, Only.refl _ _, fun _ h => .inl h, .inl ⟨rfl, rfl⟩⟩
  · obtain ⟨b, off, rfl, hc⟩ := hB.2.2 hm
    have hnews : ∀ j u, (bcs cs)[j]? = some u → w.cell? ((⟨b, off, none⟩ : Addr).add j) = some u := fun j u hu => by
      rw [Addr.add_mid]
      simp only [bcs, List.getElem?_map] at hu
      cases hg : cs[j]? with
      | none => rw [hg] at hu; cases hu
      | some x => rw [hg] at hu; injection hu with hu; subst hu; exact hc j x hg
    have hl : (bcs cs).length = m * 1 := by rw [bcs_length, hB.1]; omega
    have hml : bs.length + m ≤ maxLen := by simp only [maxLen]; omega
    have hle : (bs ++ cs).length = bs.length + m := by rw [List.length_append, hB.1]
    rcases h.2 with ⟨ho, rfl⟩ | ⟨A, rfl, hA, rfl⟩
    · obtain ⟨v', w', hrun, o1, g1, _, hat⟩ := run_append_own_at (P := P) w 0 t ty e i z 1 1 ht hi hz hs hby hzs (by decide) v bs.length (bcs bs) ho ⟨b, off, none⟩ m c (bcs cs) hl hnews (bcs_one cs) hml (by omega) (Nat.zero_le _)
      refine ⟨v', _, w', hrun, ⟨hbyt, .inl ⟨by rw [hle, bcs_append]; exact o1, rfl⟩⟩, (Only.refl _ w).grown g1 (fun g hg => .inr hg), fun j hj => ?_, .inr fun _ h => h⟩
      rcases hat with h1 | h1
      · left; rw [h1] at hj; exact hj
      · right; rw [h1] at hj; injection hj with hj; omega
    · have key : ∃ v' w', (Builtin.append_ #[t, t] ty #[.slice A bs.length bs.length, .slice (some ⟨b, off, none⟩) m c]).run P w = .ok v' w' ∧ w'.ownsRow w.heap.size e 1 v' (bs.length + m) (bcs bs ++ bcs cs) ∧ w.grownBy w' none := by
        cases A with
        | some a =>
          refine run_append_arg_grows (P := P) w t ty e i z 1 1 ht hi hz hs hby hzs (by decide) a bs.length bs.length (bcs bs) (by rw [bcs_length]; omega) (fun j u hu => ?_) ⟨b, off, none⟩ m c (bcs cs) hl hnews (by omega) hml (by omega)
          have hj : j < bs.length := by rw [← bcs_length]; exact (List.getElem?_eq_some_iff.1 hu).1
          obtain ⟨b2, off2, hA2, hc2⟩ := hA.2.2 (by omega)
          injection hA2 with hA2
          subst hA2
          rw [Addr.add_mid]
          simp only [bcs, List.getElem?_map] at hu
          cases hg : bs[j]? with
          | none => rw [hg] at hu; cases hu
          | some x => rw [hg] at hu; injection hu with hu; subst hu; exact hc2 j x hg
        | none =>
          have hb0 : bs = [] := by
            rcases Nat.eq_zero_or_pos bs.length with h1 | h1
            · exact List.eq_nil_of_length_eq_zero h1
            · obtain ⟨_, _, h2, _⟩ := hA.2.2 h1; cases h2
          subst hb0
          obtain ⟨v', w', hrun, r1, r2, _⟩ := run_append_own (P := P) w w.heap.size t ty e i z 1 1 ht hi hz hs hby hzs (by decide) (.slice none 0 0) 0 [] (World.ownsRow_nil w _ e 1) ⟨b, off, none⟩ m c (bcs cs) hl hnews (bcs_one cs) (by simpa using hml) (by simp at hlen; omega) (Nat.le_refl _)
          exact ⟨v', w', hrun, r1, r2⟩
      obtain ⟨v', w', hrun, r1, r2⟩ := key
      refine ⟨v', _, w', hrun, ⟨hbyt, .inl ⟨by rw [hle, bcs_append]; exact own_weak r1, rfl⟩⟩, (Only.refl _ w).grown r2 (fun g hg => by cases hg), fun j hj => ?_, .inr fun _ h => h⟩
      rcases r1.2 with ⟨rfl, h0⟩ | ⟨g, cap, cur, rfl, hg, _⟩
      · omega
      · have : g = j := by simpa [Value.ownBlock] using hj
        right; omega
/-- At the operation. -/
theorem wp_append_tail {w : World} {o : Oper} {a : Act} {K : Act → World → Prop} {Q : Exit → Act → World → Prop} (s x : Operand) (t : TypeId)
    (ho : o.op = .call { callee := .builtin .append, args := #[s, x], argTypes := #[t, t] })
    (e : TypeId) (i : TypeInfo) (z : Value) (ht : P.underlying t = some (.slice e)) (hi : P.info? e = some i) (hz : i.zero = some z) (hsz : i.size = 1) (hby : i.bytes = 1) (hzs : z.cells.size = 1)
    (v : Value) (bs : List Int) (G : Nat → Prop) (hs : a.eval s = v) (h : Tail w e v bs G) (B : Option Addr) (m c : Nat) (cs : List Int) (hx : a.eval x = .slice B m c) (hB : Bys w B m cs) (hlen : bs.length + m ≤ 140737488355328)
    (hK : ∀ A' c' G' w', Tail w' e (.slice A' (bs.length + m) c') (bs ++ cs) G' → Only G w w' → (∀ i, G' i → G i ∨ w.heap.size ≤ i) → ((m = 0 ∧ Value.slice A' (bs.length + m) c' = v) ∨ ∀ i, (Value.slice A' (bs.length + m) c').ownBlock = some i → G' i) → K (a.put o.dst (.slice A' (bs.length + m) c')) w') : o.wp P a w K Q := by
  obtain ⟨v', G', w', hr, h2, h3, h4, h5⟩ := run_append_tail (P := P) w t o.type e i z ht hi hz hsz hby hzs v bs G h B m c cs hB hlen
  obtain ⟨A', c', rfl, _, _⟩ := h2.read
  have hl : (bs ++ cs).length = bs.length + m := by rw [List.length_append, hB.1]
  rw [hl] at hr h2 h5
  unfold Oper.wp execOp
  simp only [ho, resolve, invoke, builtin, Sem.run_bind, Sem.run_pure, Result.andThen_ok, List.map_toArray, List.map_cons, List.map_nil, hs, hx, hr]
  exact hK A' c' G' w' h2 h3 h4 h5
theorem wpList_append_tail {w : World} {ops : Array Oper} {rest : List Oper} {o : Oper} {a : Act} {Q : Exit → Act → World → Prop} (hgd : o.guard = none) (s x : Operand) (t : TypeId)
    (ho : o.op = .call { callee := .builtin .append, args := #[s, x], argTypes := #[t, t] })
    (e : TypeId) (i : TypeInfo) (z : Value) (ht : P.underlying t = some (.slice e)) (hi : P.info? e = some i) (hz : i.zero = some z) (hsz : i.size = 1) (hby : i.bytes = 1) (hzs : z.cells.size = 1)
    (v : Value) (bs : List Int) (G : Nat → Prop) (hs : a.eval s = v) (h : Tail w e v bs G) (B : Option Addr) (m c : Nat) (cs : List Int) (hx : a.eval x = .slice B m c) (hB : Bys w B m cs) (hlen : bs.length + m ≤ 140737488355328)
    (hK : ∀ A' c' G' w', Tail w' e (.slice A' (bs.length + m) c') (bs ++ cs) G' → Only G w w' → (∀ i, G' i → G i ∨ w.heap.size ≤ i) → ((m = 0 ∧ Value.slice A' (bs.length + m) c' = v) ∨ ∀ i, (Value.slice A' (bs.length + m) c').ownBlock = some i → G' i) → wpList P ops Q rest (a.put o.dst (.slice A' (bs.length + m) c')) w') : wpList P ops Q (o :: rest) a w :=
  wpList_plain hgd fun _ hK' => wp_append_tail s x t ho e i z ht hi hz hsz hby hzs v bs G hs h B m c cs hx hB hlen fun A' c' G' w' h1 h2 h3 h4 => hK' _ _ (hK A' c' G' w' h1 h2 h3 h4)
theorem step_append_tail {w : World} {ops : Array Oper} {o : Oper} {a : Act} {K : Act → World → Prop} {Q : Exit → Act → World → Prop} {E : Prop} (hgd : o.guard = none) (s x : Operand) (t : TypeId)
    (ho : o.op = .call { callee := .builtin .append, args := #[s, x], argTypes := #[t, t] })
    (e : TypeId) (i : TypeInfo) (z : Value) (ht : P.underlying t = some (.slice e)) (hi : P.info? e = some i) (hz : i.zero = some z) (hsz : i.size = 1) (hby : i.bytes = 1) (hzs : z.cells.size = 1)
    (v : Value) (bs : List Int) (G : Nat → Prop) (hs : a.eval s = v) (h : Tail w e v bs G) (B : Option Addr) (m c : Nat) (cs : List Int) (hx : a.eval x = .slice B m c) (hB : Bys w B m cs) (hlen : bs.length + m ≤ 140737488355328)
    (hK : ∀ A' c' G' w', Tail w' e (.slice A' (bs.length + m) c') (bs ++ cs) G' → Only G w w' → (∀ i, G' i → G i ∨ w.heap.size ≤ i) → ((m = 0 ∧ Value.slice A' (bs.length + m) c' = v) ∨ ∀ i, (Value.slice A' (bs.length + m) c').ownBlock = some i → G' i) → K (a.put o.dst (.slice A' (bs.length + m) c')) w') :
    if Region.wanted o (yielded ops a.tmps) = true then Oper.wp P o a w K Q else E := by
  have hw : Region.wanted o (yielded ops a.tmps) = true := by simp [Region.wanted, hgd]
  rw [if_pos hw]
  exact wp_append_tail s x t ho e i z ht hi hz hsz hby hzs v bs G hs h B m c cs hx hB hlen hK
end
section
variable {w w' : World} {e : TypeId} {v : Value} {bs : List Int} {G : Nat → Prop}
theorem Tail.keep (h : Tail w e v bs G) {H : Nat → Prop} (ho : Only H w w') (hd : ∀ A c, v = .slice A bs.length c → Apart A bs.length H) (hg : ∀ i, G i → ¬ H i) : Tail w' e v bs G := by
  refine ⟨h.1, ?_⟩
  rcases h.2 with ⟨h1, rfl⟩ | ⟨A, rfl, h2, h3⟩
  · exact .inl ⟨ho.own h1 hg, rfl⟩
  · exact .inr ⟨A, rfl, h2.keep ho (hd A _ rfl), h3⟩
theorem Tail.below (h : Tail w e v bs G) (hb : Below w.heap.size w w') : Tail w' e v bs G :=
  h.keep (Only.of_below hb (fun _ => False)) (fun _ _ _ _ _ _ hf => hf) (fun _ _ hf => hf)
theorem Tail.lt (h : Tail w e v bs G) : ∀ i, G i → i < w.heap.size := by
  rcases h.2 with ⟨h1, rfl⟩ | ⟨A, rfl, h2, rfl⟩
  · intro i hi; exact (h1.lt i hi).2
  · intro i hi; exact hi.elim
/-- A slice that is full. -/
theorem Tail.full {A : Option Addr} {n : Nat} (h : Bys w A n bs) : Tail w e (.slice A n n) bs (fun _ => False) := by
  have := h.1
  subst this
  exact ⟨h.2.1, .inr ⟨A, rfl, h, rfl⟩⟩
end
theorem Bys.one (w : World) (e : TypeId) (x : Int) (h0 : 0 ≤ x) (h1 : x ≤ 255) : Bys (w.alloc (.cells #[.int .u8 x] e)) (some ⟨w.heap.size, 0, none⟩) 1 [x] := by
  refine ⟨rfl, fun v hv => ?_, fun _ => ⟨w.heap.size, 0, rfl, fun j v hv => ?_⟩⟩
  · simp at hv; omega
  · rw [Nat.zero_add, (Blk.new w e [.int .u8 x]).cell]
    rcases j with _ | j
    · simp at hv; subst hv; rfl
    · simp at hv
theorem Bys.lit (w : World) (e : TypeId) (bs : List Int) (h : Byt bs) : Bys (w.alloc (.cells (bcs bs).toArray e)) (some ⟨w.heap.size, 0, none⟩) bs.length bs := by
  refine ⟨rfl, h, fun _ => ⟨w.heap.size, 0, rfl, fun j v hv => ?_⟩⟩
  rw [Nat.zero_add, (Blk.new w e (bcs bs)).cell]
  simp [bcs, hv]
/-- What turns lies behind the end of an older world. -/
theorem Only.under {F : Nat → Prop} {w0 w w' : World} (h : Only F w w') (hb : Below w0.heap.size w0 w) (hF : ∀ i, F i → w0.heap.size ≤ i) : Below w0.heap.size w0 w' :=
  hb.trans (h.below hb.size (fun i hi hf => by have := hF i hf; omega))
theorem Below.then_ {w0 w w' : World} (hb : Below w0.heap.size w0 w) (h : Below w.heap.size w w') : Below w0.heap.size w0 w' := hb.trans (h.mono hb.size)
theorem Bys.alloc {w : World} {A : Option Addr} {n : Nat} {bs : List Int} (h : Bys w A n bs) (o : Obj) : Bys (w.alloc o) A n bs :=
  h.keep ((Only.refl (fun _ => False) w).alloc o) (fun _ _ _ h => h)
theorem Tail.alloc {w : World} {e : TypeId} {v : Value} {bs : List Int} {G : Nat → Prop} (h : Tail w e v bs G) (o : Obj) : Tail (w.alloc o) e v bs G :=
  h.keep ((Only.refl (fun _ => False) w).alloc o) (fun _ _ _ _ _ _ h => h) (fun _ _ h => h)
theorem Only.alloc0 {F : Nat → Prop} (w : World) (o : Obj) : Only F w (w.alloc o) := (Only.refl F w).alloc o
section
variable {w w' : World} {g : Nat} {t : TypeId} {x0 x1 x2 x3 x4 x5 : Value} {l : List Value}
theorem Blk.c0 (h : Blk w g t (x0 :: l)) : w.cell? ⟨g, 0, none⟩ = some x0 := (h.cell 0).trans rfl
theorem Blk.c1 (h : Blk w g t (x0 :: x1 :: l)) : w.cell? ⟨g, 1, none⟩ = some x1 := (h.cell 1).trans rfl
theorem Blk.c2 (h : Blk w g t (x0 :: x1 :: x2 :: l)) : w.cell? ⟨g, 2, none⟩ = some x2 := (h.cell 2).trans rfl
theorem Blk.c3 (h : Blk w g t (x0 :: x1 :: x2 :: x3 :: l)) : w.cell? ⟨g, 3, none⟩ = some x3 := (h.cell 3).trans rfl
theorem Blk.c4 (h : Blk w g t (x0 :: x1 :: x2 :: x3 :: x4 :: l)) : w.cell? ⟨g, 4, none⟩ = some x4 := (h.cell 4).trans rfl
theorem Blk.c5 (h : Blk w g t (x0 :: x1 :: x2 :: x3 :: x4 :: x5 :: l)) : w.cell? ⟨g, 5, none⟩ = some x5 := (h.cell 5).trans rfl
theorem Blk.under {cs : List Value} (h : Blk w g t cs) (hb : Below w.heap.size w w') : Blk w' g t cs :=
  (Only.of_below hb (fun _ => False)).blk h (fun h => h)
end
theorem cell_under {w w' : World} {p : Addr} {v : Value} (hb : Below w.heap.size w w') (h : w.cell? p = some v) : w'.cell? p = some v :=
  (hb.cell (World.block_lt_of_cell? w _ h)).trans h
/-! ### Slices of slices of bytes -/
/-- A slice of slices of bytes that reads so. -/
def Byss (w : World) (A : Option Addr) (n : Nat) (xss : List (List Int)) : Prop :=
  xss.length = n ∧ (0 < n → ∃ b off : Nat, A = some ⟨b, off, none⟩ ∧ ∀ (j : Nat) (xs : List Int), xss[j]? = some xs → ∃ A' n' c', w.cell? ⟨b, off + j, none⟩ = some (.slice A' n' c') ∧ Bys w A' n' xs ∧ n' ≤ c')
theorem Byss.below {w w' : World} {A : Option Addr} {n : Nat} {xss : List (List Int)} (h : Byss w A n xss) (hb : Below w.heap.size w w') : Byss w' A n xss := by
  refine ⟨h.1, fun hn => ?_⟩
  obtain ⟨b, off, hA, hc⟩ := h.2 hn
  refine ⟨b, off, hA, fun j xs hj => ?_⟩
  obtain ⟨A', n', c', h1, h2, h3⟩ := hc j xs hj
  exact ⟨A', n', c', (hb.cell (p := ⟨b, off + j, none⟩) (World.block_lt_of_cell? w _ h1)).trans h1, h2.keep (Only.of_below hb (fun _ => False)) (fun _ _ _ h => h), h3⟩
/-! ### Bytes of one's own since the world w0 -/
/-- w comes of w0, below whose end nothing has turned; the slice is one's own, or full: an append touches nothing older than w0. -/
def Mine (e : TypeId) (w0 w : World) (A : Option Addr) (n c : Nat) (bs : List Int) : Prop :=
  Below w0.heap.size w0 w ∧ n = bs.length ∧ ∃ G, Tail w e (.slice A n c) bs G ∧ ∀ i, G i → w0.heap.size ≤ i
/-- The slice's block is new since w0. -/
def Fr (w0 : World) (A : Option Addr) : Prop := ∀ ad, A = some ad → w0.heap.size ≤ ad.block
def FrStep (w0 : World) (A : Option Addr) (m : Nat) (A' : Option Addr) : Prop := Fr w0 A ∨ 0 < m → Fr w0 A'
/-- Bytes of one's own are handed back; A: whence they came (none: nowhere). -/
def MinePost (e : TypeId) (w0 : World) (A : Option Addr) (bs : List Int) (en : Ending) (w' : World) : Prop :=
  ∃ A' n c, en = .returned (.slice A' n c) ∧ Mine e w0 w' A' n c bs ∧ (Fr w0 A → Fr w0 A')
theorem Fr.none (w0 : World) : Fr w0 none := fun _ h => by cases h
theorem Fr.older {wa w0 : World} {A : Option Addr} (h : Fr w0 A) (hb : Below wa.heap.size wa w0) : Fr wa A := fun ad e => Nat.le_trans hb.size (h ad e)
theorem Fr.new (w : World) (w0 : World) (h : w0.heap.size ≤ w.heap.size) (o : Nat) : Fr w0 (some ⟨w.heap.size, o, Option.none⟩) := fun ad e => by injection e with e; rw [← e]; exact h
theorem MinePost.fresh {e : TypeId} {w0 w' : World} {bs : List Int} {en : Ending} (h : MinePost e w0 Option.none bs en w') : ∃ A' n c, en = .returned (.slice A' n c) ∧ Mine e w0 w' A' n c bs ∧ Fr w0 A' := by
  obtain ⟨A', n, c, h1, h2, h3⟩ := h
  exact ⟨A', n, c, h1, h2, h3 (Fr.none _)⟩
theorem MinePost.mk {e : TypeId} {w0 w' : World} {A A' : Option Addr} {n c : Nat} {bs : List Int} (h : Mine e w0 w' A' n c bs) (hf : Fr w0 A') : MinePost e w0 A bs (.returned (.slice A' n c)) w' := ⟨A', n, c, rfl, h, fun _ => hf⟩
section
variable {w0 w w' : World} {e : TypeId} {A : Option Addr} {n c : Nat} {bs : List Int}
theorem Mine.below (h : Mine e w0 w A n c bs) : Below w0.heap.size w0 w := h.1
theorem Mine.len (h : Mine e w0 w A n c bs) : bs.length = n := h.2.1.symm
theorem Mine.bys (h : Mine e w0 w A n c bs) : Bys w A n bs := by
  obtain ⟨_, rfl, G, h1, _⟩ := h
  obtain ⟨A', c', h2, h3, _⟩ := h1.read
  injection h2 with e1 e2 e3
  subst e1
  exact h3
theorem Mine.cap (h : Mine e w0 w A n c bs) : n ≤ c := by
  obtain ⟨_, rfl, G, h1, _⟩ := h
  obtain ⟨A', c', h2, _, h4⟩ := h1.read
  injection h2 with e1 e2 e3
  omega
theorem Mine.byt (h : Mine e w0 w A n c bs) : Byt bs := h.bys.2.1
theorem Mine.full (hb : Below w0.heap.size w0 w) (h : Bys w A n bs) : Mine e w0 w A n n bs := ⟨hb, h.1.symm, _, Tail.full h, fun _ h => h.elim⟩
theorem Mine.nil (hb : Below w0.heap.size w0 w) (A : Option Addr) : Mine e w0 w A 0 0 [] := Mine.full hb (Bys.nil w A)
theorem Mine.keep (h : Mine e w0 w A n c bs) (hb : Below w.heap.size w w') : Mine e w0 w' A n c bs := by
  obtain ⟨h0, hn, G, h1, h2⟩ := h
  exact ⟨h0.trans (hb.mono h0.size), hn, G, h1.below hb, h2⟩
theorem Mine.alloc (h : Mine e w0 w A n c bs) (o : Obj) : Mine e w0 (w.alloc o) A n c bs := h.keep ((Below.refl _ w).alloc (Nat.le_refl _) o)
theorem Mine.older {wa : World} (h : Mine e w0 w A n c bs) (hb : Below wa.heap.size wa w0) : Mine e wa w A n c bs := by
  obtain ⟨h0, hn, G, h1, h2⟩ := h
  have := hb.size
  exact ⟨hb.trans (h0.mono hb.size), hn, G, h1, fun i hi => Nat.le_trans hb.size (h2 i hi)⟩
/-- Whatever was known of what is older is known yet. -/
theorem Mine.old {B : Option Addr} {m : Nat} {cs : List Int} (h : Mine e w0 w A n c bs) (hB : Bys w0 B m cs) : Bys w B m cs :=
  hB.keep (Only.of_below h.1 (fun _ => False)) (fun _ _ _ h => h)
theorem Bys.below {B : Option Addr} {m : Nat} {cs : List Int} (hB : Bys w B m cs) (h : Below w.heap.size w w') : Bys w' B m cs :=
  hB.keep (Only.of_below h (fun _ => False)) (fun _ _ _ h => h)
end
section
variable {P : Program}
/-- An append to bytes of one's own. -/
theorem wpList_mine {w : World} {ops : Array Oper} {rest : List Oper} {o : Oper} {a : Act} {Q : Exit → Act → World → Prop} (hgd : o.guard = none) (s x : Operand) (t : TypeId)
    (ho : o.op = .call { callee := .builtin .append, args := #[s, x], argTypes := #[t, t] })
    (e : TypeId) (i : TypeInfo) (z : Value) (ht : P.underlying t = some (.slice e)) (hi : P.info? e = some i) (hz : i.zero = some z) (hsz : i.size = 1) (hby : i.bytes = 1) (hzs : z.cells.size = 1)
    (w0 : World) (A : Option Addr) (n c : Nat) (bs : List Int) (hs : a.eval s = .slice A n c) (h : Mine e w0 w A n c bs) (B : Option Addr) (m c' : Nat) (cs : List Int) (hx : a.eval x = .slice B m c') (hB : Bys w B m cs) (hlen : n + m ≤ 140737488355328)
    (hK : ∀ A' n' c' w', Mine e w0 w' A' n' c' (bs ++ cs) → FrStep w0 A m A' → wpList P ops Q rest (a.put o.dst (.slice A' n' c')) w') : wpList P ops Q (o :: rest) a w := by
  obtain ⟨h0, rfl, G, h1, h2⟩ := h
  refine wpList_append_tail hgd s x t ho e i z ht hi hz hsz hby hzs _ bs G hs h1 B m c' cs hx hB hlen fun A' c2 G' w' t' o' g' k' => ?_
  have hG : ∀ i, G' i → w0.heap.size ≤ i := fun i hi => by
    rcases g' i hi with h | h
    · exact h2 i h
    · exact Nat.le_trans h0.size h
  refine hK A' _ c2 w' ⟨h0.trans (o'.below h0.size (fun i hi hg => by have := h2 i hg; omega)), by rw [List.length_append, hB.1], G', t', hG⟩ fun hF => ?_
  rcases k' with ⟨hm, e1⟩ | hk
  · injection e1 with e1 _ _
    subst e1
    rcases hF with hF | hF
    · exact hF
    · omega
  · intro ad e1
    subst e1
    exact hG _ (hk ad.block rfl)
end
end Go.Proofs.Ytfloclamdpageaa
