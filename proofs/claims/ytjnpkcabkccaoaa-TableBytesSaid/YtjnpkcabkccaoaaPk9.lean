import Derived.Test.YtjnpkcabkccaoaaPk1
import Derived.Test.YtjnpkcabkccaoaaPk8
import Derived.Test.YtjnpkcabkccaoaaPk7
import Derived.Lib.SmallJoins
import Derived.Test.YtjnpkcabkccaoaaPk3
import Derived.Test.YtjnpkcabkccaoaaPk4
/-
  Rows of one's own, whose base may lie below what has turned: for seats without chapter 10.
-/
namespace Go.Proofs.Ytjnpkcabkccaoaa
open Go.RowKit

section
variable {P : Program}
/-- An append to a row of one's own, at a step of a region that draws its order. -/
theorem stepRow {w : World} {ops : Array Oper} {o : Oper} {a : Act} {K : Act → World → Prop} {Q : Exit → Act → World → Prop} {E : Prop} (hgd : o.guard = none) (d : Nat) (hd : o.dst = some d) (s x : Operand) (t : TypeId)
    (ho : o.op = .call { callee := .builtin .append, args := #[s, x], argTypes := #[t, t] })
    (e : TypeId) (k by_ : Nat) (ht : P.underlying t = some (.slice e)) (hi : (P.info? e).map (fun i => (i.size, i.bytes, i.zero.map (fun z => z.cells.size))) = some (k, by_, some k)) (hk : 0 < k)
    (base : Nat) (v : Value) (n : Nat) (cs : List Value) (hs : a.eval s = v) (h : w.ownsRow base e k v n cs) (hbase : base ≤ w.heap.size)
    (b off m c : Nat) (news : List Value) (hx : a.eval x = .slice (some ⟨b, off, none⟩) m c) (hl : news.length = m * k) (hnews : w.rangeAt b off news) (h1 : ∀ u ∈ news, u.oneCell' = true)
    (hbytes : (n + m) * by_ ≤ 140737488355328) (hby : 0 < by_)
    (hK : ∀ A' c' w', w'.ownsRow base e k (.slice A' (n + m) c') (n + m) (cs ++ news) → n + m ≤ c' → (∀ g, (Value.slice A' (n + m) c').ownBlock = some g → v.ownBlock = some g ∨ w.heap.size ≤ g) → Only (fun i => v.ownBlock = some i) w w' → K (a.put (some d) (.slice A' (n + m) c')) w') :
    if Region.wanted o (yielded ops a.tmps) = true then Oper.wp P o a w K Q else E := by
  have hw : Region.wanted o (yielded ops a.tmps) = true := by simp [Region.wanted, hgd]
  rw [if_pos hw]
  rw [← hd] at hK
  obtain ⟨i, z, hi1, hz, hsz, hbb, hzs⟩ : ∃ i z, P.info? e = some i ∧ i.zero = some z ∧ i.size = k ∧ i.bytes = by_ ∧ z.cells.size = k := by
    cases hq : P.info? e with
    | none => simp [hq] at hi
    | some i =>
      cases hz : i.zero with
      | none => simp [hq, hz] at hi
      | some z =>
        simp [hq, hz] at hi
        exact ⟨i, z, rfl, hz, hi.1, hi.2.1, hi.2.2⟩
  have hn : n + m ≤ 140737488355328 := Nat.le_trans (Nat.le_mul_of_pos_right _ hby) hbytes
  obtain ⟨v', w', hrun, o1, g1, _, hat⟩ := run_append_own_at (P := P) w base t o.type e i z k by_ ht hi1 hz hsz hbb hzs hk v n cs h ⟨b, off, none⟩ m c news hl (fun j u hu => by rw [Addr.add_mid]; exact hnews j u hu) h1 (by simp only [maxLen]; omega) hbytes hbase
  obtain ⟨A', c', rfl, hc⟩ : ∃ A' c', v' = .slice A' (n + m) c' ∧ n + m ≤ c' := by
    rcases o1.2 with ⟨rfl, h0⟩ | ⟨g, cap, cur, rfl, _, _, hnc, _⟩
    · exact ⟨none, 0, by rw [h0], by omega⟩
    · exact ⟨_, cap, rfl, hnc⟩
  unfold Oper.wp execOp
  simp only [ho, resolve, invoke, builtin, Sem.run_bind, Sem.run_pure, Result.andThen_ok, List.map_toArray, List.map_cons, List.map_nil, hs, hx, hrun]
  refine hK A' c' w' o1 hc (fun g hg => ?_) ((Only.refl _ w).grown g1 (fun g hg => .inr hg))
  rcases hat with h1 | h1
  · left; rw [← h1]; exact hg
  · right; rw [h1] at hg; injection hg with hg; omega
end
theorem rowsOf {α : Type} {cells : α → List Value} {k : Nat} {fine : World → α → Prop} {w : World} {base : Nat} {e : TypeId} {A : Option Addr} {n c : Nat} {xs : List α} (hl : xs.length = n) (hk : ∀ a ∈ xs, (cells a).length = k)
    (h : w.ownsRow base e k (.slice A n c) n (xs.flatMap cells)) (hf : ∀ a ∈ xs, fine w a) : RowsIn cells k fine w A n xs := by
  refine ⟨hl, hf, fun hn => ?_⟩
  rcases h.2 with ⟨_, h0⟩ | ⟨g, cap, cur, e1, _, hh, hnc, hcm, _, htake⟩
  · omega
  · injection e1 with e1 _ _
    refine ⟨g, 0, e1, fun i a ha j u hu => ?_⟩
    have hc : Blk w g e cur.toList := by simpa [Blk] using hh
    rw [hc.cell]
    have key : ∀ (ys : List α) (i : Nat) (a : α), (∀ a ∈ ys, (cells a).length = k) → ys[i]? = some a → ∀ j u, (cells a)[j]? = some u → (ys.flatMap cells)[i * k + j]? = some u := by
      intro ys
      induction ys with
      | nil => intro i a _ h; simp at h
      | cons y ys ih =>
        intro i a hk h j u hu
        have hy := hk y (by simp)
        rcases i with _ | i
        · simp at h
          subst h
          rw [List.flatMap_cons, List.getElem?_append_left (by have := (List.getElem?_eq_some_iff.1 hu).1; omega)]
          simpa using hu
        · simp at h
          rw [List.flatMap_cons, List.getElem?_append_right (by rw [hy, Nat.succ_mul]; omega), hy]
          rw [show (i + 1) * k + j - k = i * k + j by rw [Nat.succ_mul]; omega]
          exact ih i a (fun b hb => hk b (by simp [hb])) h j u hu
    have := key xs i a hk ha j u hu
    rw [← htake, List.getElem?_take] at this
    rw [Nat.zero_add]
    split at this
    · exact this
    · cases this
section
variable {P : Program}
/-- An append to a row of one's own; its base may lie below what has turned. -/
theorem wpListRow {w : World} {ops : Array Oper} {rest : List Oper} {o : Oper} {a : Act} {Q : Exit → Act → World → Prop} (hgd : o.guard = none) (d : Nat) (hd : o.dst = some d) (s x : Operand) (t : TypeId)
    (ho : o.op = .call { callee := .builtin .append, args := #[s, x], argTypes := #[t, t] })
    (e : TypeId) (k by_ : Nat) (ht : P.underlying t = some (.slice e)) (hi : (P.info? e).map (fun i => (i.size, i.bytes, i.zero.map (fun z => z.cells.size))) = some (k, by_, some k)) (hk : 0 < k)
    (base : Nat) (v : Value) (n : Nat) (cs : List Value) (hs : a.eval s = v) (h : w.ownsRow base e k v n cs) (hbase : base ≤ w.heap.size)
    (b off m c : Nat) (news : List Value) (hx : a.eval x = .slice (some ⟨b, off, none⟩) m c) (hl : news.length = m * k) (hnews : w.rangeAt b off news) (h1 : ∀ u ∈ news, u.oneCell' = true)
    (hbytes : (n + m) * by_ ≤ 140737488355328) (hby : 0 < by_)
    (hK : ∀ A' c' w', w'.ownsRow base e k (.slice A' (n + m) c') (n + m) (cs ++ news) → n + m ≤ c' → (∀ g, (Value.slice A' (n + m) c').ownBlock = some g → v.ownBlock = some g ∨ w.heap.size ≤ g) → Only (fun i => v.ownBlock = some i) w w' → wpList P ops Q rest (a.put (some d) (.slice A' (n + m) c')) w') : wpList P ops Q (o :: rest) a w := by
  refine wpList_plain hgd fun K hK' => ?_
  have h9 := stepRow (P := P) (ops := #[]) (K := K) (Q := Q) (E := True) hgd d hd s x t ho e k by_ ht hi hk base v n cs hs h hbase b off m c news hx hl hnews h1 hbytes hby (fun A' c' w' q1 q2 q3 q4 => hK' _ _ (hK A' c' w' q1 q2 q3 q4))
  rwa [if_pos (by simp [Region.wanted, hgd])] at h9
end
end Go.Proofs.Ytjnpkcabkccaoaa
/-
  chainlog: a slab's mark; a header; a record.
-/
namespace Go.Proofs.Ytjnpkcabkccaoaa
open Go.RowKit

/-- Results that lie in a block, beside others. -/
theorem results_tmp_cell_blk {P : Program} {fn : Func} {p u : Tmp} {ty : TypeId} (h : fn.results = #[.tmp u, .cell p ty]) (tmps : Array Value) (w : World) (g : Nat) (t : TypeId) (cs : List Value) (d : TypeDesc)
    (hp : tmps.getD p undef = .pointer (some ⟨g, 0, none⟩)) (hb : Blk w g t cs) (hu : P.underlying ty = some d) (hd : d.isRow = true) (hi : (P.info? ty).map (·.size) = some cs.length) :
    (results fn tmps).run P w = .ok (.tuple #[tmps.getD u undef, .agg cs.toArray]) w := by
  have hp' : tmps[p]?.getD undef = .pointer (some ⟨g, 0, none⟩) := by simpa using hp
  simp [results, h, hp', asAddr, run_loadVar_mid w g 0 ty cs d hb.whole hu hd hi]
theorem results_tmp_cell_tmp_blk {P : Program} {fn : Func} {p u v : Tmp} {ty : TypeId} (h : fn.results = #[.tmp u, .cell p ty, .tmp v]) (tmps : Array Value) (w : World) (g : Nat) (t : TypeId) (cs : List Value) (d : TypeDesc)
    (hp : tmps.getD p undef = .pointer (some ⟨g, 0, none⟩)) (hb : Blk w g t cs) (hu : P.underlying ty = some d) (hd : d.isRow = true) (hi : (P.info? ty).map (·.size) = some cs.length) :
    (results fn tmps).run P w = .ok (.tuple #[tmps.getD u undef, .agg cs.toArray, tmps.getD v undef]) w := by
  have hp' : tmps[p]?.getD undef = .pointer (some ⟨g, 0, none⟩) := by simpa using hp
  simp [results, h, hp', asAddr, run_loadVar_mid w g 0 ty cs d hb.whole hu hd hi]
theorem step_allocA {P : Program} {ops : Array Oper} {o : Oper} {a : Act} {w : World} {K : Act → World → Prop} {Q : Exit → Act → World → Prop} {E : Prop} (hgd : o.guard = none) (d : Nat) (hd : o.dst = some d) (t : TypeId) (ho : o.op = .alloc t) (z : List Value)
    (hz : (P.info? t).map (·.zero) = some (some (.agg z.toArray))) (h : K (a.put (some d) (.pointer (some ⟨w.heap.size, 0, none⟩))) (w.alloc (.cells z.toArray t))) :
    if Region.wanted o (yielded ops a.tmps) = true then Oper.wp P o a w K Q else E := by
  have hw : Region.wanted o (yielded ops a.tmps) = true := by simp [Region.wanted, hgd]
  rw [if_pos hw]
  rw [← hd] at h
  exact wp_alloc_agg t ho z hz h
theorem step_storeB {P : Program} {ops : Array Oper} {op : Oper} {a : Act} {w : World} {K : Act → World → Prop} {Q : Exit → Act → World → Prop} {E : Prop} (hgd : op.guard = none) (ty : TypeId) (x y : Operand) (ho : op.op = .store ty x y)
    (g o : Nat) (t : TypeId) (cs vs : List Value) (hx : a.eval x = .pointer (some ⟨g, o, none⟩)) (hy : a.eval y = .agg vs.toArray) (hb : Blk w g t cs) (hl : o + vs.length ≤ cs.length)
    (hi : (P.info? ty).map (·.size) = some vs.length) (h1 : ∀ v ∈ vs, v.oneCell' = true)
    (h : ∀ w', Only (fun i => i = g) w w' → w'.heap.size = w.heap.size → Blk w' g t (lay cs o vs) → K (a.put op.dst undef) w') :
    if Region.wanted op (yielded ops a.tmps) = true then Oper.wp P op a w K Q else E := by
  have hw : Region.wanted op (yielded ops a.tmps) = true := by simp [Region.wanted, hgd]
  rw [if_pos hw]
  refine wp_store_mid ty x y ho g o vs.toArray hx hy (by simpa using hb.there o vs.length hl) (by simpa using hi) (all_oneCell_toArray h1) ?_
  exact h _ (Only.setCells (F := fun i => i = g) (.inr rfl) _ _ _ (Only.refl _ w)) (by rw [setCells_size]) (by simpa using hb.cells vs o w cs)
theorem Byss.two (w w1 : World) (e : TypeId) (A B : Option Addr) (n m c d : Nat) (x y : List Int) (hx : Bys w A n x) (hy : Bys w B m y) (hc : n ≤ c) (hd : m ≤ d) (hb : Below w.heap.size w w1) : Byss (w1.alloc (.cells #[.slice A n c, .slice B m d] e)) (some ⟨w1.heap.size, 0, none⟩) 2 [x, y] := by
  have hb2 : Below w.heap.size w (w1.alloc (.cells #[.slice A n c, .slice B m d] e)) := below_alloc hb _
  have hB := Blk.new w1 e [.slice A n c, .slice B m d]
  refine ⟨rfl, fun _ => ⟨w1.heap.size, 0, rfl, fun j xs hj => ?_⟩⟩
  match j, hj with
  | 0, hj => injection hj with hj; subst hj; exact ⟨A, n, c, hB.c0, hx.below hb2, hc⟩
  | 1, hj => injection hj with hj; subst hj; exact ⟨B, m, d, hB.c1, hy.below hb2, hd⟩
  | j + 2, hj => simp at hj
/-- Part of a block, as bytes. -/
theorem Blk.bys {w : World} {g : Nat} {t : TypeId} {bs : List Int} (h : Blk w g t (bcs bs)) (hb : Byt bs) (o n : Nat) (hn : o + n ≤ bs.length) : Bys w (some ⟨g, o, none⟩) n ((bs.drop o).take n) := by
  refine ⟨by rw [List.length_take, List.length_drop]; omega, fun x hx => hb x (List.mem_of_mem_drop (List.mem_of_mem_take hx)), fun _ => ⟨g, o, rfl, fun j v hv => ?_⟩⟩
  have hj : j < n := by
    have := (List.getElem?_eq_some_iff.1 hv).1
    rw [List.length_take, List.length_drop] at this
    omega
  rw [List.getElem?_take, if_pos hj, List.getElem?_drop] at hv
  rw [h.cell, bcs, List.getElem?_map, hv]; rfl
theorem fixed_all (b : List Int) (k : Nat) (hk : b.length = k) (h0 : 1 ≤ k) (h8 : k ≤ 8) : Rd.fixed ⟨b, 0⟩ (k : Int) = (num b, ⟨[], 0⟩) := by
  have hw : Rd.within (k : Int) = (k : Int) := by unfold Rd.within; omega
  unfold Rd.fixed
  rw [hw]
  unfold Rd.raw
  rw [if_neg (by simp; omega), if_neg (by simp [hk])]
  simp only [Int.toNat_natCast]
  rw [List.take_of_length_le (by omega), List.drop_of_length_le (by omega)]
set_option maxHeartbeats 1000000 in
set_option maxRecDepth 100000 in
theorem marked_any (w : World) (s : Slb) (hl : s.length = 128) (hb : Byt s) :
    Calls Try.prog 140 #[.agg (enc s).toArray] w fun e w' => e = .returned (.int .u64 (marked s : Int)) ∧ Below w.heap.size w w' := by
  have B1 := hide (show Below w.heap.size w (w.alloc (.cells (enc s).toArray 34)) from below_alloc (Below.refl _ _) _)
  have K1 := hide (show Blk (w.alloc (.cells (enc s).toArray 34)) w.heap.size 34 (bcs s) from Blk.new w 34 (bcs s))
  have HY := hide (K1.out.bys hb 120 8 (by omega))
  have HF := hide (fixed_all (s.drop 120) 8 (by rw [List.length_drop, hl]) (by decide) (by decide))
  have HD := hide (show (s.drop 120).take 8 = s.drop 120 from List.take_of_length_le (by rw [List.length_drop, hl]; decide))
  have hll := hide (show (enc s).length = 128 by rw [enc_length, hl])
  clear hl hb
  go_enter Try.func140, Try.ntmps140
  go_wp2_with fail
  refine (New_any _ _ _ _ _ HY.out (by decide)).mono ?_
  rintro e w2 ⟨g, h, rfl, r2, hg, hh, b2⟩
  rw [HD.out] at r2
  have R2 := hide r2
  have B2 := hide (Below.then_ B1.out b2)
  have HG := hide (show w.heap.size ≤ g by simp at hg; omega)
  clear r2 hg hh b2
  go_wp2_with fail
  refine (RFixed_any w2 g h _ 8 R2.out).mono ?_
  rintro e w3 ⟨rfl, r3, o3⟩
  rw [show Rd.fixed ⟨s.drop 120, 0⟩ 8 = (num (s.drop 120), ⟨[], 0⟩) from HF.out]
  have B3 := hide (o3.under B2.out fun i hi => by have h9 : i = g := hi; have := HG.out; omega)
  clear r3 o3
  go_wp2_with fail
  go_ret
  exact ⟨rfl, B3.out⟩
def loadH (a : Addr) : Sem Value := loadVar 80 a
theorem loadH_fold (a : Addr) : loadVar 80 a = loadH a := rfl
theorem isH32 : (Try.prog.info? 80).map (·.size) = some 32 := by kernel_rfl
theorem loadH_run (w : World) (b o : Nat) (bs : List Int) (h : w.rangeAt b o (bcs bs)) (hl : bs.length = 32) : (loadH ⟨b, o, none⟩).run Try.prog w = .ok (.agg (bcs bs).toArray) w :=
  run_loadVar_mid w b o _ (bcs bs) _ h Try.underlying80 rfl (by rw [isH32, bcs_length, hl])
attribute [local go_sem ↓] loadH_fold
/-- An append to bytes of one's own: what was made since the world wo, in which they stood so, is left alone too. -/
theorem wpList_app4 {w : World} {ops : Array Oper} {rest : List Oper} {o : Oper} {a : Act} {Q : Exit → Act → World → Prop} (hgd : o.guard = none) (s x : Operand)
    (ho : o.op = .call { callee := .builtin .append, args := #[s, x], argTypes := #[28, 28] })
    (w0 wo : World) (A : Option Addr) (n c : Nat) (bs : List Int) (hs : a.eval s = .slice A n c) (h : Mine 5 w0 wo A n c bs) (hbo : Below wo.heap.size wo w) (B : Option Addr) (m c' : Nat) (cs : List Int) (hx : a.eval x = .slice B m c') (hB : Bys w B m cs) (hlen : n + m ≤ 140737488355328)
    (hK : ∀ A' n' c' w', Mine 5 w0 w' A' n' c' (bs ++ cs) → Only (fun i => w0.heap.size ≤ i ∧ i < wo.heap.size) w w' → (0 < m → Fr w0 A') → wpList Try.prog ops Q rest (a.put o.dst (.slice A' n' c')) w') : wpList Try.prog ops Q (o :: rest) a w := by
  obtain ⟨i, z, hi, hz, hs1, hby, hzs⟩ := u8_info
  obtain ⟨h0, rfl, G, h1, h2⟩ := h
  have hlt := h1.lt
  refine wpList_append_tail hgd s x 28 ho 5 i z Try.underlying28 hi hz hs1 hby hzs _ bs G hs (h1.below hbo) B m c' cs hx hB hlen fun A' c2 G' w' t' o' g' k' => ?_
  have hb : Below w0.heap.size w0 w := Below.then_ h0 hbo
  have hG : ∀ i, G' i → w0.heap.size ≤ i := fun i hi => by
    rcases g' i hi with h | h
    · exact h2 i h
    · exact Nat.le_trans hb.size h
  exact hK A' _ c2 w' ⟨hb.trans (o'.below hb.size (fun i hi hg => by have := h2 i hg; omega)), by rw [List.length_append, hB.1], G', t', hG⟩ (o'.mono (fun i _ hg => ⟨h2 i hg, hlt i hg⟩)) (fun hm => by
    rcases k' with ⟨hm0, _⟩ | hk
    · omega
    · intro ad e1
      subst e1
      exact hG _ (hk ad.block rfl))
/-- An append to bytes of one's own, at a drawn step: what was made since the world wo, in which they stood so, is left alone too. -/
theorem step_app3 {w : World} {ops : Array Oper} {o : Oper} {a : Act} {K : Act → World → Prop} {Q : Exit → Act → World → Prop} {E : Prop} (hgd : o.guard = none) (d : Nat) (hd : o.dst = some d) (s x : Operand)
    (ho : o.op = .call { callee := .builtin .append, args := #[s, x], argTypes := #[28, 28] })
    (w0 wo : World) (A : Option Addr) (n c : Nat) (bs : List Int) (hs : a.eval s = .slice A n c) (h : Mine 5 w0 wo A n c bs) (hbo : Below wo.heap.size wo w) (B : Option Addr) (m c' : Nat) (cs : List Int) (hx : a.eval x = .slice B m c') (hB : Bys w B m cs) (hlen : n + m ≤ 140737488355328)
    (hK : ∀ A' n' c' w', Mine 5 w0 w' A' n' c' (bs ++ cs) → Only (fun i => w0.heap.size ≤ i ∧ i < wo.heap.size) w w' → (0 < m → Fr w0 A') → K (a.put (some d) (.slice A' n' c')) w') :
    if Region.wanted o (yielded ops a.tmps) = true then Oper.wp Try.prog o a w K Q else E := by
  rw [← hd] at hK
  obtain ⟨i, z, hi, hz, hs1, hby, hzs⟩ := u8_info
  obtain ⟨h0, rfl, G, h1, h2⟩ := h
  have hlt := h1.lt
  refine step_append_tail hgd s x 28 ho 5 i z Try.underlying28 hi hz hs1 hby hzs _ bs G hs (h1.below hbo) B m c' cs hx hB hlen fun A' c2 G' w' t' o' g' k' => ?_
  have hb : Below w0.heap.size w0 w := Below.then_ h0 hbo
  have hG : ∀ i, G' i → w0.heap.size ≤ i := fun i hi => by
    rcases g' i hi with h | h
    · exact h2 i h
    · exact Nat.le_trans hb.size h
  exact hK A' _ c2 w' ⟨hb.trans (o'.below hb.size (fun i hi hg => by have := h2 i hg; omega)), by rw [List.length_append, hB.1], G', t', hG⟩ (o'.mono (fun i _ hg => ⟨h2 i hg, hlt i hg⟩)) (fun hm => by
    rcases k' with ⟨hm0, _⟩ | hk
    · omega
    · intro ad e1
      subst e1
      exact hG _ (hk ad.block rfl))
/-- What turns in blocks older than the bytes' own. -/
theorem Mine.turn {e : TypeId} {w0 w1 w w' : World} {A : Option Addr} {n c : Nat} {bs : List Int} {F : Nat → Prop} (h : Mine e w1 w A n c bs) (hf : Fr w1 A) (hb : Below w0.heap.size w0 w1) (ho : Only F w w') (hF : ∀ i, F i → w0.heap.size ≤ i ∧ i < w1.heap.size) : Mine e w0 w' A n c bs := by
  obtain ⟨h0, hn, G, h1, h2⟩ := h
  have hb2 := Below.then_ hb h0
  refine ⟨hb2.trans (ho.below hb2.size fun i hi hf => by have := (hF i hf).1; omega), hn, G, h1.keep ho (fun A' c' e _ ad hA hf9 => ?_) (fun i hg hf => by have := (hF i hf).2; have := h2 i hg; omega), fun i hi => Nat.le_trans hb.size (h2 i hi)⟩
  injection e with e1 _ _
  have h8 := hf ad (e1.trans hA)
  have h7 := (hF _ hf9).2
  omega
/-- Bytes of the call's own, and a hash. -/
def TwoPost (w : World) (bs H : List Int) (e : Ending) (w' : World) : Prop :=
  ∃ A n c, e = .returned (.tuple #[.slice A n c, .agg (bcs H).toArray]) ∧ Mine 5 w w' A n c bs ∧ Fr w A
set_option maxHeartbeats 2000000 in
set_option maxRecDepth 100000 in
theorem sealed_any (w : World) (gen : Nat) (hg : gen < 18446744073709551616) :
    Calls Try.prog 115 #[.int .u64 (gen : Int)] w (TwoPost w (sealedB gen) (sealB gen)) := by
  have hIH : (Try.prog.info? 80).map (·.size) = some 32 := by kernel_rfl
  have HIH := hide hIH
  obtain ⟨w1, hw1⟩ : ∃ z, z = w.alloc (.cells (bcs zero32).toArray 80) := ⟨_, rfl⟩
  have B1 := hide (show Below w.heap.size w w1 by rw [hw1]; exact below_alloc (Below.refl _ _) _)
  have K1 := hide (show Blk w1 w.heap.size 80 (bcs zero32) by rw [hw1]; exact Blk.new w _ _)
  have HSZ := hide (show w1.heap.size = w.heap.size + 1 by rw [hw1]; simp)
  have g0 : (0 : Int) ≤ (gen : Int) := by omega
  have g1 := hide (show (gen : Int) < 18446744073709551616 by omega)
  clear hg hIH
  go_enter Try.func115, Try.ntmps115
  have hcv := Joins.run_convert_bytes_const_at (P := Try.prog) (w.alloc (.cells (bcs zero32).toArray 80)) 28 5 #[.int .u8 66, .int .u8 89, .int .u8 78, .int .u8 65, .int .u8 77, .int .u8 69, .int .u8 48, .int .u8 49] 8 8 (w.heap.size + 1) (by simp) Try.underlying28 Try.underlying5
  go_wp2_with (refine wpList_alloc_agg rfl 80 rfl (bcs zero32) zero32_info ?_; simp only [Act.put, List.setIfInBounds_toArray, List.set_cons_zero, List.set_cons_succ])
  rw [← hw1]
  obtain ⟨w2, hw2⟩ : ∃ z, z = w1.alloc (.cells #[.int .u8 66, .int .u8 89, .int .u8 78, .int .u8 65, .int .u8 77, .int .u8 69, .int .u8 48, .int .u8 49] 5 (8, 9)) := ⟨_, rfl⟩
  have B2 := hide (show Below w1.heap.size w1 w2 by rw [hw2]; exact below_alloc (Below.refl _ _) _)
  have Y2 := hide (show Bys w2 (some ⟨w.heap.size + 1, 0, none⟩) 8 magicB from ⟨rfl, magicB_byt, fun _ => ⟨w.heap.size + 1, 0, rfl, fun j v hv => by
    rw [hw2, Nat.zero_add, Joins.cell_alloc_mark_at _ _ _ _ _ _ HSZ.out.symm]
    show ((bcs magicB).toArray)[j]? = _
    rw [List.getElem?_toArray, bcs, List.getElem?_map, hv]; rfl⟩⟩)
  rw [← hw2]
  clear hw1 hw2 hcv
  refine (Fixed_any w1 w2 _ 8 8 magicB gen 8 B2.out Y2.out g0 g1.out (by decide)).mono ?_
  rintro e w3 h3
  obtain ⟨A3, n3, c3, rfl, m3, f3⟩ := h3.fresh
  have M3 := hide (show Mine 5 w1 w3 A3 n3 c3 (headB16 gen) from m3)
  have N3 := hide (show n3 = 16 by rw [← M3.out.len, headB16_len])
  have HBY := hide (Byss.one w3 w3 28 A3 n3 c3 (headB16 gen) M3.out.bys M3.out.cap (Below.refl _ _))
  have B34 := hide (below_alloc (Below.refl _ w3) (.cells #[.slice A3 n3 c3] 28))
  clear h3 m3 f3
  go_wp2_with fail
  refine (DSum_any _ _ 1 1 [headB16 gen] HBY.out (by simp) (by simp [headB16_len]) (by decide)).mono ?_
  rintro e w5 ⟨rfl, b5⟩
  rw [show [headB16 gen].flatten = headB16 gen by simp]
  obtain ⟨S, hS⟩ : ∃ S, S = sealB gen := ⟨_, rfl⟩
  rw [show sha (headB16 gen) = S from hS.symm]
  have HSL := hide (show S.length = 32 by rw [hS]; exact sha_len _)
  have HSB := hide (show Byt S by rw [hS]; exact sha_byt _)
  have HSE := hide hS
  have B35 := hide (Below.then_ B34.out b5)
  have K5 := hide (Blk.new w5 80 (bcs zero32))
  clear hS b5 HBY
  go_wp2_with (first
    | (refine wpList_alloc_agg rfl 80 rfl (bcs zero32) zero32_info ?_; simp only [Act.put, List.setIfInBounds_toArray, List.set_cons_zero, List.set_cons_succ])
    | (refine wpList_store_blk rfl 80 _ _ rfl w5.heap.size 0 80 (bcs zero32) (bcs S) (by rfl) (by rfl) K5.out (by rw [bcs_length, bcs_length, HSL.out]; decide) (by rw [bcs_length, HSL.out]; exact isH32) (bcs_one _) ?_; intro w6 o9 z9 b9; rw [lay_all _ _ (by rw [bcs_length, bcs_length, HSL.out]; rfl)] at b9; simp only [Act.put]; have KI := hide b9; have B36 := hide (Below.then_ B35.out (Below.trans ((Below.refl _ w5).alloc (Nat.le_refl _) _) (o9.below (by simp) (fun i hi e => by have h9 : i = w5.heap.size := e; omega)))); clear b9 o9 z9))
  refine wp_region_held_drew (S := fun w' => w'.rangeAt w5.heap.size 0 (bcs S)) (by kernel_rfl) (range_under KI.out.whole (Below.refl _ w6).drew) (fun hSA0 => ?_)
  obtain ⟨w6d, hwA⟩ : ∃ x, x = w6.drew := ⟨_, rfl⟩
  have Bd := hide (show Below w6.heap.size w6 w6d by rw [hwA]; exact (Below.refl _ w6).drew)
  rw [← hwA] at hSA0 ⊢
  clear hwA
  (refine wpAnyH_take (i := 0) (oi := ⟨some 13, .move (.tmp 4), 28, "chainlog.go:55", #[], none⟩) (v := ?_) rfl (by kernel_rfl) (by kernel_rfl) (by kernel_rfl) (fun _ _ _ h => h) (Or.inl ⟨by rfl, fun w' hSw => ?_⟩) hSA0 ?_; rotate_left; focus (go_simp; try with_reducible rfl))
  simp only [Act.put, List.setIfInBounds_toArray, List.set_cons_zero, List.set_cons_succ]
  (refine wpAnyH_take (i := 1) (oi := ⟨some 14, .slice 80 (.tmp 5) Option.none Option.none Option.none, 28, "chainlog.go:55", #[], none⟩) (v := ?_) rfl (by kernel_rfl) (by kernel_rfl) (by kernel_rfl) (fun _ _ _ h => h) (Or.inl ⟨by rfl, fun w' hSw => ?_⟩) hSA0 ?_; rotate_left; focus (go_simp; try with_reducible rfl))
  simp only [Act.put, List.setIfInBounds_toArray, List.set_cons_zero, List.set_cons_succ]
  (refine wpAnyH_take (i := 3) (oi := ⟨some 16, .load 80 (.tmp 5), 80, "chainlog.go:55", #[⟨4, .gcOnly .lateStores⟩], none⟩) (v := ?_) rfl (by kernel_rfl) (by kernel_rfl) (by kernel_rfl) (fun _ _ _ h => h) (Or.inl ⟨by rfl, fun w' hSw => ?_⟩) hSA0 ?_; rotate_left; focus (have z1 := loadH_run w' w5.heap.size 0 S hSw HSL.out; go_simp; try with_reducible rfl))
  simp only [Act.put, List.setIfInBounds_toArray, List.set_cons_zero, List.set_cons_succ]
  refine wpAnyH_ready (rs := [2]) (by kernel_rfl) (by simp) ?_
  refine AllReadyH.cons rfl (fun K hK => ?_) AllReadyH.nil
  refine step_app3 rfl 15 rfl _ _ rfl w1 w3 A3 n3 c3 (headB16 gen) (by rfl) M3.out (Below.then_ B36.out Bd.out) (some ⟨w5.heap.size, 0, none⟩) 32 32 S (by rfl) (by have h9 := (KI.out.under Bd.out).bys HSB.out 0 32 (by rw [HSL.out]; decide); rwa [List.drop_zero, List.take_of_length_le (by rw [HSL.out]; decide)] at h9) (by have := N3.out; omega) ?_
  intro A9 n9 c9 w9 m9 o9 f9
  have hr9 := range_only hSA0 o9 (fun h => by have := B35.out.size; omega)
  have M9 := hide m9
  have F9 := hide (f9 (by decide))
  clear m9 o9 f9
  simp only [Act.put, List.setIfInBounds_toArray, List.set_cons_zero, List.set_cons_succ]
  refine hK.out _ _ (hr9) (fun hSA1 => ?_)
  clear hK K
  (refine wpAnyH_take (i := 4) (oi := ⟨some 2, .assign (.tmp 15), 28, "chainlog.go:55", #[⟨2, .data⟩, ⟨2, .chain⟩, ⟨0, .phase⟩, ⟨1, .phase⟩, ⟨2, .phase⟩, { on := 3, ground := Go.Ground.textOnly Go.Departure.lateStores }], none⟩) (v := ?_) rfl (by kernel_rfl) (by kernel_rfl) (by kernel_rfl) (fun _ _ _ h => h) (Or.inl ⟨by rfl, fun w' hSw => ?_⟩) hSA1 ?_; rotate_left; focus (go_simp; try with_reducible rfl))
  simp only [Act.put, List.setIfInBounds_toArray, List.set_cons_zero, List.set_cons_succ]
  refine wpAnyH_ready (rs := [5]) (by kernel_rfl) (by simp) ?_
  refine AllReadyH.cons rfl (fun K hK => ?_) AllReadyH.nil
  refine step_storeB rfl 80 _ _ rfl w.heap.size 0 80 (bcs zero32) (bcs S) (by rfl) (by rfl) (K1.out.under M9.out.below) (by rw [bcs_length, bcs_length, HSL.out]; decide) (by rw [bcs_length, HSL.out]; exact isH32) (bcs_one _) ?_
  intro wz oz zz bz
  rw [lay_all _ _ (by rw [bcs_length, bcs_length, HSL.out]; rfl)] at bz
  have hrz := range_only hSA1 oz (fun h => by have h9 : w5.heap.size = w.heap.size := h; have := K1.out.lt; have := B35.out.size; have := M3.out.below.size; omega)
  simp only [Act.put]
  refine hK.out _ _ (hrz) (fun hSA2 => ?_)
  clear hK K
  refine wpAnyH_done (by kernel_rfl) ?_ _
  have OZ := hide oz
  have BZ := hide bz
  clear hr9 hrz zz oz bz hSA0 hSA1 hSA2 g0 g1
  go_wp2_with fail
  obtain ⟨D, hD⟩ : ∃ D, D = sealedB gen := ⟨_, rfl⟩
  rw [← hD, ← HSE.out]
  have hm := M9.out.turn F9.out B1.out OZ.out (fun i hi => by have h9 : i = w.heap.size := hi; have := HSZ.out; omega)
  rw [show headB16 gen ++ S = D by rw [HSE.out, hD]; rfl] at hm
  refine bodyPost_ret (results_tmp_cell_blk rfl _ _ w.heap.size 80 _ _ (by rfl) BZ.out Try.underlying80 rfl (by rw [bcs_length, HSL.out]; exact isH32)) rfl ⟨A9, n9, c9, rfl, hm, F9.out.older B1.out⟩
set_option maxHeartbeats 2000000 in
set_option maxRecDepth 100000 in
theorem bound_any (w : World) (kind : Int) (hk : 0 ≤ kind ∧ kind ≤ 255) (A : Option Addr) (n c : Nat) (body ahead : List Int) (hB : Bys w A n body) (hn : n ≤ 100000) (hl : ahead.length = 32) (hab : Byt ahead) :
    Calls Try.prog 112 #[.int .u8 kind, .slice A n c, .agg (bcs ahead).toArray] w (TwoPost w (boundB kind body ahead) (sha (ahead ++ recB kind body))) := by
  obtain ⟨w1, hw1⟩ : ∃ z, z = (w.alloc (.cells (bcs ahead).toArray 80)).alloc (.cells (bcs zero32).toArray 80) := ⟨_, rfl⟩
  have B1 := hide (show Below w.heap.size w w1 by rw [hw1]; exact below_alloc (below_alloc (Below.refl _ _) _) _)
  have KA := hide (show Blk w1 w.heap.size 80 (bcs ahead) by rw [hw1]; exact (Blk.new w _ _).alloc _)
  have K1 := hide (show Blk w1 (w.heap.size + 1) 80 (bcs zero32) by rw [hw1]; exact Blk.new1 w _ _ _)
  have HSZ := hide (show w1.heap.size = w.heap.size + 2 by rw [hw1]; simp)
  have HB := hide (hB.below B1.out)
  have HN := hide hn
  have HNL := hide hB.1
  have HL := hide hl
  have HAB := hide hab
  have k0 := hk.1
  have HK := hide hk
  have n0 : (0 : Int) ≤ (n : Int) := by omega
  have n9 : (n : Int) ≤ 100000 := by omega
  clear hB hn hl hab hk
  go_enter Try.func112, Try.ntmps112
  go_wp2_with (refine wpList_alloc_agg rfl 80 rfl (bcs zero32) zero32_info ?_; simp only [Act.put, List.setIfInBounds_toArray, List.set_cons_zero, List.set_cons_succ, World.size_alloc])
  rw [← hw1]
  clear hw1
  refine (Fixed_any w1 w1 none 0 0 [] (n : Int) 4 (Below.refl _ _) (Bys.nil _ _) n0 (by omega) (by decide)).mono ?_
  rintro e wf h3
  obtain ⟨Af, nf, cf, rfl, mf, _⟩ := h3.fresh
  have MF := hide (show Mine 5 w1 wf Af nf cf (dig body.length 4) by rw [HNL.out]; exact mf)
  have NF := hide (show nf = 4 by rw [← MF.out.len, dig_length])
  have K1a := hide (Bys.one wf 5 kind HK.out.1 HK.out.2)
  clear h3 mf
  go_wp2_with (at_builtin; first
    | (refine wpList_app4 rfl _ _ rfl w1 wf Af nf cf (dig body.length 4) (by rfl) MF.out (below_alloc (Below.refl _ wf) (.cells #[.int .u8 kind] 5)) (some ⟨wf.heap.size, 0, none⟩) 1 1 [kind] (by rfl) K1a.out (by have := NF.out; omega) ?_; intro A2 n2 c2 w2 m2 o2 _; have M2 := hide m2; have N2 := hide (show n2 = 5 by rw [← M2.out.len, List.length_append, dig_length]; rfl); clear m2 o2; simp only [Act.put, List.setIfInBounds_toArray, List.set_cons_zero, List.set_cons_succ])
    | (refine wpList_app4 rfl _ _ rfl w1 w2 A2 n2 c2 (dig body.length 4 ++ [kind]) (by rfl) M2.out (Below.refl _ w2) A n c body (by rfl) (HB.out.below M2.out.below) (by have := N2.out; have := HN.out; omega) ?_; intro A3 n3 c3 w3 m3 o3 _; have M3 := hide (show Mine 5 w1 w3 A3 n3 c3 (recB kind body) from m3); have N3 := hide (show n3 ≤ 100005 by rw [← M3.out.len, recB_len, HNL.out]; have := HN.out; omega); have KA3 := hide (KA.out.under M3.out.below); have HBY := hide (Byss.two w3 w3 28 (some ⟨w.heap.size, 0, none⟩) A3 32 n3 32 c3 ahead (recB kind body) (by have h9 := KA3.out.bys HAB.out 0 32 (by rw [HL.out]; decide); rwa [List.drop_zero, List.take_of_length_le (by rw [HL.out]; decide)] at h9) M3.out.bys (Nat.le_refl _) M3.out.cap (Below.refl _ _)); have B34 := hide (below_alloc (Below.refl _ w3) (.cells #[.slice (some ⟨w.heap.size, 0, none⟩) 32 32, .slice A3 n3 c3] 28)); clear m3 o3; simp only [Act.put, List.setIfInBounds_toArray, List.set_cons_zero, List.set_cons_succ]))
  refine (DSum_any _ _ 2 2 [ahead, recB kind body] HBY.out (by simp [HL.out]) (by simp [HL.out, recB_len, HNL.out]; have := HN.out; omega) (by decide)).mono ?_
  rintro e w5 ⟨rfl, b5⟩
  rw [show [ahead, recB kind body].flatten = ahead ++ recB kind body by simp]
  obtain ⟨S, hS⟩ : ∃ S, S = sha (ahead ++ recB kind body) := ⟨_, rfl⟩
  rw [← hS]
  have HSL := hide (show S.length = 32 by rw [hS]; exact sha_len _)
  have HSB := hide (show Byt S by rw [hS]; exact sha_byt _)
  have HSE := hide hS
  have B35 := hide (Below.then_ B34.out b5)
  have K5 := hide (Blk.new w5 80 (bcs zero32))
  clear hS b5 HBY
  go_wp2_with (first
    | (refine wpList_alloc_agg rfl 80 rfl (bcs zero32) zero32_info ?_; simp only [Act.put, List.setIfInBounds_toArray, List.set_cons_zero, List.set_cons_succ])
    | (refine wpList_store_blk rfl 80 _ _ rfl w5.heap.size 0 80 (bcs zero32) (bcs S) (by rfl) (by rfl) K5.out (by rw [bcs_length, bcs_length, HSL.out]; decide) (by rw [bcs_length, HSL.out]; exact isH32) (bcs_one _) ?_; intro w6 o9 z9 b9; rw [lay_all _ _ (by rw [bcs_length, bcs_length, HSL.out]; rfl)] at b9; simp only [Act.put]; have KI := hide b9; have B36 := hide (Below.then_ B35.out (Below.trans ((Below.refl _ w5).alloc (Nat.le_refl _) _) (o9.below (by simp) (fun i hi e => by have h9 : i = w5.heap.size := e; omega)))); clear b9 o9 z9))
  refine wp_region_held_drew (S := fun w' => w'.rangeAt w5.heap.size 0 (bcs S)) (by kernel_rfl) (range_under KI.out.whole (Below.refl _ w6).drew) (fun hSA0 => ?_)
  obtain ⟨w6d, hwA⟩ : ∃ x, x = w6.drew := ⟨_, rfl⟩
  have Bd := hide (show Below w6.heap.size w6 w6d by rw [hwA]; exact (Below.refl _ w6).drew)
  rw [← hwA] at hSA0 ⊢
  clear hwA
  (refine wpAnyH_take (i := 0) (oi := ⟨some 24, .move (.tmp 8), 28, "chainlog.go:164", #[], none⟩) (v := ?_) rfl (by kernel_rfl) (by kernel_rfl) (by kernel_rfl) (fun _ _ _ h => h) (Or.inl ⟨by rfl, fun w' hSw => ?_⟩) hSA0 ?_; rotate_left; focus (go_simp; try with_reducible rfl))
  simp only [Act.put, List.setIfInBounds_toArray, List.set_cons_zero, List.set_cons_succ]
  (refine wpAnyH_take (i := 1) (oi := ⟨some 25, .slice 80 (.tmp 9) Option.none Option.none Option.none, 28, "chainlog.go:164", #[], none⟩) (v := ?_) rfl (by kernel_rfl) (by kernel_rfl) (by kernel_rfl) (fun _ _ _ h => h) (Or.inl ⟨by rfl, fun w' hSw => ?_⟩) hSA0 ?_; rotate_left; focus (go_simp; try with_reducible rfl))
  simp only [Act.put, List.setIfInBounds_toArray, List.set_cons_zero, List.set_cons_succ]
  (refine wpAnyH_take (i := 3) (oi := ⟨some 27, .load 80 (.tmp 9), 80, "chainlog.go:164", #[⟨4, .gcOnly .lateStores⟩], none⟩) (v := ?_) rfl (by kernel_rfl) (by kernel_rfl) (by kernel_rfl) (fun _ _ _ h => h) (Or.inl ⟨by rfl, fun w' hSw => ?_⟩) hSA0 ?_; rotate_left; focus (have z1 := loadH_run w' w5.heap.size 0 S hSw HSL.out; go_simp; try with_reducible rfl))
  simp only [Act.put, List.setIfInBounds_toArray, List.set_cons_zero, List.set_cons_succ]
  refine wpAnyH_ready (rs := [2]) (by kernel_rfl) (by simp) ?_
  refine AllReadyH.cons rfl (fun K hK => ?_) AllReadyH.nil
  refine step_app3 rfl 26 rfl _ _ rfl w1 w3 A3 n3 c3 (recB kind body) (by rfl) M3.out (Below.then_ B36.out Bd.out) (some ⟨w5.heap.size, 0, none⟩) 32 32 S (by rfl) (by have h9 := (KI.out.under Bd.out).bys HSB.out 0 32 (by rw [HSL.out]; decide); rwa [List.drop_zero, List.take_of_length_le (by rw [HSL.out]; decide)] at h9) (by have := N3.out; omega) ?_
  intro A9 n9 c9 w9 m9 o9 f9
  have hr9 := range_only hSA0 o9 (fun h => by have := B35.out.size; omega)
  have M9 := hide m9
  have F9 := hide (f9 (by decide))
  clear m9 o9 f9
  simp only [Act.put, List.setIfInBounds_toArray, List.set_cons_zero, List.set_cons_succ]
  refine hK.out _ _ (hr9) (fun hSA1 => ?_)
  clear hK K
  (refine wpAnyH_take (i := 4) (oi := ⟨some 6, .assign (.tmp 26), 28, "chainlog.go:164", #[⟨2, .data⟩, ⟨2, .chain⟩, ⟨0, .phase⟩, ⟨1, .phase⟩, ⟨2, .phase⟩, { on := 3, ground := Go.Ground.textOnly Go.Departure.lateStores }], none⟩) (v := ?_) rfl (by kernel_rfl) (by kernel_rfl) (by kernel_rfl) (fun _ _ _ h => h) (Or.inl ⟨by rfl, fun w' hSw => ?_⟩) hSA1 ?_; rotate_left; focus (go_simp; try with_reducible rfl))
  simp only [Act.put, List.setIfInBounds_toArray, List.set_cons_zero, List.set_cons_succ]
  refine wpAnyH_ready (rs := [5]) (by kernel_rfl) (by simp) ?_
  refine AllReadyH.cons rfl (fun K hK => ?_) AllReadyH.nil
  refine step_storeB rfl 80 _ _ rfl (w.heap.size + 1) 0 80 (bcs zero32) (bcs S) (by rfl) (by rfl) (K1.out.under M9.out.below) (by rw [bcs_length, bcs_length, HSL.out]; decide) (by rw [bcs_length, HSL.out]; exact isH32) (bcs_one _) ?_
  intro wz oz zz bz
  rw [lay_all _ _ (by rw [bcs_length, bcs_length, HSL.out]; rfl)] at bz
  have hrz := range_only hSA1 oz (fun h => by have h9 : w5.heap.size = (w.heap.size + 1) := h; have := K1.out.lt; have := B35.out.size; have := M3.out.below.size; omega)
  simp only [Act.put]
  refine hK.out _ _ (hrz) (fun hSA2 => ?_)
  clear hK K
  refine wpAnyH_done (by kernel_rfl) ?_ _
  have OZ := hide oz
  have BZ := hide bz
  clear hr9 hrz zz oz bz hSA0 hSA1 hSA2
  go_wp2_with fail
  have oz := OZ.out
  have bz := BZ.out
  obtain ⟨D, hD⟩ : ∃ D, D = boundB kind body ahead := ⟨_, rfl⟩
  rw [← hD, ← HSE.out]
  have hm := M9.out.turn F9.out B1.out oz (fun i hi => by have h9 : i = w.heap.size + 1 := hi; have := HSZ.out; omega)
  rw [show recB kind body ++ S = D by rw [HSE.out, hD]; rfl] at hm
  clear hD
  refine bodyPost_ret (results_tmp_cell_blk rfl _ _ (w.heap.size + 1) 80 _ _ (by rfl) bz Try.underlying80 rfl (by rw [bcs_length, HSL.out]; exact isH32)) rfl ⟨A9, n9, c9, rfl, hm, F9.out.older B1.out⟩
end Go.Proofs.Ytjnpkcabkccaoaa
/-
  bytes.Equal: for seats without chapter 9.
-/
namespace Go.Proofs.Ytjnpkcabkccaoaa
open Go.RowKit

theorem baEq_iff (a b : List Int) (ha : Byt a) (hb : Byt b) : ba a = ba b ↔ a = b := ⟨ba_inj a b ha hb, fun h => by rw [h]⟩
theorem baBeq (a b : List Int) (ha : Byt a) (hb : Byt b) : ((ba a).toList == (ba b).toList) = decide (a = b) := by
  have e : ((ba a).toList = (ba b).toList) ↔ a = b := by
    rw [← baEq_iff a b ha hb, ByteArray.toList_eq, ByteArray.toList_eq]
    constructor
    · intro h
      have : (ba a).data = (ba b).data := Array.ext' h
      cases h1 : ba a with | mk x => cases h2 : ba b with | mk y => rw [h1, h2] at this; simp at this; rw [this]
    · intro h; rw [h]
  rw [Bool.eq_iff_iff]
  simp [e]
set_option maxHeartbeats 1000000 in
theorem BytesEqual_any (w : World) (A B : Option Addr) (n c m d : Nat) (xs ys : List Int) (hA : Bys w A n xs) (hB : Bys w B m ys) :
    Calls Try.prog 131 #[.slice A n c, .slice B m d] w fun e w' => e = .returned (.bool (decide (xs = ys))) ∧ w = w' := by
  have s1 := run_str w A n c _ hA
  have s2 := run_str w B m d _ hB
  have E : Hid (((ba xs).toList == (ba ys).toList) = decide (xs = ys)) := hide (baBeq xs ys hA.2.1 hB.2.1)
  clear hA hB
  generalize ba xs = S at s1 E
  generalize ba ys = T at s2 E
  go_enter Try.func131, Try.ntmps131
  go_wp2
  go_ret
  exact ⟨by rw [← E.out]; rfl, rfl⟩
end Go.Proofs.Ytjnpkcabkccaoaa
/-
  chainlog: a half's generation and its hash.
-/
namespace Go.Proofs.Ytjnpkcabkccaoaa
open Go.RowKit

theorem DevRep.under {w w' : World} {b : Nat} {F : Nat → Prop} {d : Dev} (h : DevRep w b F d) (hb : Below w.heap.size w w') : DevRep w' b F d := h.keep (Only.of_below hb fun _ => False) (fun _ _ h => h)
theorem nil32_zero : nil32 = zero32 := rfl
def mkHz (parts : Array (Nat × Value)) : Sem Value := Instr.build 80 parts
theorem mkHz_fold (parts : Array (Nat × Value)) : Instr.build 80 parts = mkHz parts := rfl
theorem mkHz_zero (w : World) : (mkHz #[]).run Try.prog w = .ok (.agg (bcs zero32).toArray) w := by kernel_rfl
theorem loadSlabR (w : World) (b o : Nat) (s : Slb) (h : w.rangeAt b o (enc s)) (hl : s.length = 128) : (loadSlab ⟨b, o, none⟩).run Try.prog w = .ok (.agg (enc s).toArray) w :=
  run_loadVar_mid w b o _ (enc s) _ h Try.underlying34 rfl (by rw [isz33, enc_length, hl])
theorem slab_read (d : Dev) (i : Nat) (n : Int) (hn : n = (i : Int)) : (d.read n).1 = d.slab i := by rw [hn]; rfl
theorem half_room (half room : Nat) : (half : Int) * (room : Int) = ((half * room : Nat) : Int) := by simp
attribute [local go_sem ↓] loadH_fold mkHz_fold loadSlab_fold
attribute [local go_sem] mkHz_zero
set_option maxHeartbeats 2000000 in
set_option maxRecDepth 100000 in
theorem header_any (w : World) (b : Nat) (F : Nat → Prop) (d : Dev) (half : Nat) (hh : half ≤ 1) (h : DevRep w b F d) (hb : d.Bytes) :
    Calls Try.prog 136 #[.pointer (some ⟨b, 0, none⟩), .int .i64 (half : Int)] w fun e w' => e = .returned (.tuple #[.int .u64 ((header d half).1 : Int), .agg (bcs (header d half).2).toArray]) ∧ Below w.heap.size w w' := by
  obtain ⟨w1, hw1⟩ : ∃ z, z = w.alloc (.cells (bcs zero32).toArray 80) := ⟨_, rfl⟩
  have B1 := hide (show Below w.heap.size w w1 by rw [hw1]; exact below_alloc (Below.refl _ _) _)
  have K1 := hide (show Blk w1 w.heap.size 80 (bcs zero32) by rw [hw1]; exact Blk.new w _ _)
  have D1 := hide (h.under B1.out)
  have HSL := hide (h.good.slab (half * d.room))
  have HSB := hide (hb.slab (half * d.room))
  have hR : d.room ≤ 2048 := by have := h.good.few; unfold Dev.room; omega
  obtain ⟨R, hRR⟩ : ∃ R, R = d.room := ⟨_, rfl⟩
  have HRR := hide hRR
  have HH : Hid (header d half = if R = 0 then (0, nil32) else if marked (d.slab (half * R)) < 1 ∨ mostGen < marked (d.slab (half * R)) ∨ sealedB (marked (d.slab (half * R))) ≠ (d.slab (half * R)).take 48 then (0, nil32) else (marked (d.slab (half * R)), sealB (marked (d.slab (half * R))))) := by rw [hRR]; exact hide rfl
  rw [← hRR] at HSL HSB hR
  have r0 : (0 : Int) ≤ (R : Int) := by omega
  have r9 : (R : Int) ≤ 2048 := by omega
  have h0 : (0 : Int) ≤ (half : Int) := by omega
  obtain ⟨P, hP⟩ : ∃ P, P = half * R := ⟨_, rfl⟩
  have hP9 : (P : Int) ≤ 2048 := by
    obtain rfl | rfl : half = 0 ∨ half = 1 := by omega
    · rw [hP]; simp
    · rw [hP]; simp; omega
  have hPw : wrap64 ((half : Int) * (R : Int)) = (P : Int) := by
    rw [half_room, ← hP, ← IntWalk.i64_left, IntKind.wrap_i64]; omega
  have HPW := hide hPw
  rw [← hP] at HSL HSB HH
  obtain ⟨s, hs⟩ : ∃ s, s = d.slab P := ⟨_, rfl⟩
  rw [← hs] at HSL HSB HH
  have HS := hide hs
  clear hs hP hPw hP9
  clear hRR h hb hR
  go_enter Try.func136, Try.ntmps136
  go_wp2_with (refine wpList_alloc_agg rfl 80 rfl (bcs zero32) zero32_info ?_; simp only [Act.put, List.setIfInBounds_toArray, List.set_cons_zero, List.set_cons_succ])
  rw [← hw1]
  clear hw1
  refine (room_any w1 b F d D1.out).mono ?_
  rintro e wx ⟨rfl, rfl⟩
  rw [← HRR.out]
  by_cases hr0 : R = 0
  · have HH0 := hide (show header d half = (0, nil32) by rw [HH.out, if_pos hr0])
    clear HH
    subst hr0
    go_wp2_with (refine wpList_store_blk rfl 80 _ _ rfl w.heap.size 0 80 (bcs zero32) (bcs zero32) (by rfl) (by rfl) K1.out (Nat.le_refl _) isH32 (bcs_one _) ?_; intro w9 o9 z9 b9; rw [lay_all _ _ rfl] at b9; simp only [Act.put])
    refine bodyPost_ret (results_tmp_cell_blk rfl _ _ w.heap.size 80 _ _ (by rfl) b9 Try.underlying80 rfl isH32) rfl ⟨by rw [HH0.out]; rfl, o9.under B1.out fun i hi => by have h9 : i = w.heap.size := hi; omega⟩
  · have i1 : ¬ (R : Int) = 0 := by omega
    have i2 : ((R : Int) == 0) = false := by simp; omega
    go_wp2_with (go_at_call 116; refine (room_any w1 b F d D1.out).mono ?_; rintro e wx ⟨rfl, rfl⟩; rw [← HRR.out])
    rw [HPW.out]
    refine (read_any w1 b F d _ D1.out).mono ?_
    rintro e w2 ⟨rfl, b2⟩
    rw [show (d.read (P : Int)).1 = s from HS.out.symm]
    obtain ⟨E, hE⟩ : ∃ E, E = (d.read (P : Int)).2 := ⟨_, rfl⟩
    rw [← hE]
    have B2 := hide (Below.then_ B1.out b2)
    have K2 := hide (K1.out.under b2)
    have KZ2 := hide (Blk.new w2 34 (enc zeroS))
    have hI := hide (isz33' s HSL.out)
    clear hE b2
    go_wp2_with (first
      | (refine wpList_alloc_agg rfl 34 rfl (enc zeroS) zero33 ?_; simp only [Act.put, List.setIfInBounds_toArray, List.set_cons_zero, List.set_cons_succ])
      | (refine wpList_store_blk rfl 34 _ _ rfl w2.heap.size 0 34 (enc zeroS) (enc s) (by rfl) (by rfl) KZ2.out (Nat.le_of_eq (by rw [enc_length, enc_length, HSL.out, zeroS_length])) hI.out (enc_one _) ?_; intro w3 o3 z3 b3; rw [lay_all _ _ (by rw [enc_length, enc_length, HSL.out, zeroS_length])] at b3; have K3 := hide b3; have B23 := hide (show Below w2.heap.size w2 w3 from Below.trans ((Below.refl _ w2).alloc (Nat.le_refl _) _) (o3.below (by simp) (fun i hi e => by have h9 : i = w2.heap.size := e; omega))); have hld := loadSlabR w3 w2.heap.size 0 s b3.whole HSL.out; clear o3 z3 b3; simp only [Act.put]))
    refine (marked_any w3 s HSL.out HSB.out).mono ?_
    rintro e w4 ⟨rfl, b4⟩
    obtain ⟨G, hG⟩ : ∃ G, G = marked s := ⟨_, rfl⟩
    have HG9 := hide (show G < 18446744073709551616 by rw [hG]; exact marked_lt HSB.out HSL.out)
    rw [← hG] at HH ⊢
    have B34 := hide b4
    clear hld hG b4
    go_wp2_with fail
    refine (sealed_any w4 G HG9.out).mono ?_
    rintro e w5 ⟨A5, n5, c5, rfl, m5, _⟩
    obtain ⟨W, hW⟩ : ∃ W, W = sealedB G := ⟨_, rfl⟩
    obtain ⟨S, hS⟩ : ∃ S, S = sealB G := ⟨_, rfl⟩
    rw [← hW, ← hS] at HH
    rw [← hW] at m5
    rw [← hS]
    have N5 := hide (show n5 = 48 by rw [← m5.len, hW, sealedB_len])
    have HSS := hide (show S.length = 32 by rw [hS]; exact sha_len _)
    have B35 := hide (Below.then_ B34.out m5.below)
    have Y5 := hide m5.bys
    have K5 := hide (Blk.new w5 80 (bcs zero32))
    clear hW hS m5
    by_cases hg1 : G < 1
    · have g1 : (G : Int) < 1 := by omega
      go_wp2_with (first
        | (refine wpList_alloc_agg rfl 80 rfl (bcs zero32) zero32_info ?_; simp only [Act.put, List.setIfInBounds_toArray, List.set_cons_zero, List.set_cons_succ])
        | (refine wpList_store_blk rfl 80 _ _ rfl w5.heap.size 0 80 (bcs zero32) (bcs S) (by rfl) (by rfl) K5.out (by rw [bcs_length, bcs_length, HSS.out]; decide) (by rw [bcs_length, HSS.out]; exact isH32) (bcs_one _) ?_; intro w6 o9 z9 b9; rw [lay_all _ _ (by rw [bcs_length, bcs_length, HSS.out]; rfl)] at b9; simp only [Act.put]; have KI := hide b9; have B56 := hide (show Below w5.heap.size w5 w6 from Below.trans ((Below.refl _ w5).alloc (Nat.le_refl _) _) (o9.below (by simp) (fun i hi e => by have h9 : i = w5.heap.size := e; omega))); clear b9 o9 z9)
        | (refine wpList_store_blk rfl 80 _ _ rfl w.heap.size 0 80 (bcs zero32) (bcs zero32) (by rfl) (by rfl) ((K2.out.under (Below.then_ B23.out B35.out)).under B56.out) (Nat.le_refl _) isH32 (bcs_one _) ?_; intro w9 o9 z9 b9; rw [lay_all _ _ rfl] at b9; simp only [Act.put]))
      refine bodyPost_ret (results_tmp_cell_blk rfl _ _ w.heap.size 80 _ _ (by rfl) b9 Try.underlying80 rfl isH32) rfl ⟨?_, o9.under (Below.then_ B2.out (Below.then_ B23.out (Below.then_ B35.out B56.out))) fun i hi => by have h9 : i = w.heap.size := hi; omega⟩
      rw [HH.out, if_neg hr0, if_pos (.inl hg1)]
      rfl
    · have g1 : ¬ (G : Int) < 1 := by omega
      by_cases hg2 : mostGen < G
      · have g2 : (4611686018427387904 : Int) < (G : Int) := by unfold mostGen at hg2; omega
        go_wp2_with (first
          | (refine wpList_alloc_agg rfl 80 rfl (bcs zero32) zero32_info ?_; simp only [Act.put, List.setIfInBounds_toArray, List.set_cons_zero, List.set_cons_succ])
          | (refine wpList_store_blk rfl 80 _ _ rfl w5.heap.size 0 80 (bcs zero32) (bcs S) (by rfl) (by rfl) K5.out (by rw [bcs_length, bcs_length, HSS.out]; decide) (by rw [bcs_length, HSS.out]; exact isH32) (bcs_one _) ?_; intro w6 o9 z9 b9; rw [lay_all _ _ (by rw [bcs_length, bcs_length, HSS.out]; rfl)] at b9; simp only [Act.put]; have KI := hide b9; have B56 := hide (show Below w5.heap.size w5 w6 from Below.trans ((Below.refl _ w5).alloc (Nat.le_refl _) _) (o9.below (by simp) (fun i hi e => by have h9 : i = w5.heap.size := e; omega))); clear b9 o9 z9)
          | (refine wpList_store_blk rfl 80 _ _ rfl w.heap.size 0 80 (bcs zero32) (bcs zero32) (by rfl) (by rfl) ((K2.out.under (Below.then_ B23.out B35.out)).under B56.out) (Nat.le_refl _) isH32 (bcs_one _) ?_; intro w9 o9 z9 b9; rw [lay_all _ _ rfl] at b9; simp only [Act.put]))
        refine bodyPost_ret (results_tmp_cell_blk rfl _ _ w.heap.size 80 _ _ (by rfl) b9 Try.underlying80 rfl isH32) rfl ⟨?_, o9.under (Below.then_ B2.out (Below.then_ B23.out (Below.then_ B35.out B56.out))) fun i hi => by have h9 : i = w.heap.size := hi; omega⟩
        rw [HH.out, if_neg hr0, if_pos (.inr (.inl hg2))]
        rfl
      · have g2 : ¬ (4611686018427387904 : Int) < (G : Int) := by unfold mostGen at hg2; omega
        have n48 : (n5 : Int) = 48 := by have := N5.out; omega
        have N48 := hide n48
        rw [N5.out] at Y5 ⊢
        go_wp2_with (first
          | (refine wpList_alloc_agg rfl 80 rfl (bcs zero32) zero32_info ?_; simp only [Act.put, List.setIfInBounds_toArray, List.set_cons_zero, List.set_cons_succ])
          | (refine wpList_store_blk rfl 80 _ _ rfl w5.heap.size 0 80 (bcs zero32) (bcs S) (by rfl) (by rfl) K5.out (by rw [bcs_length, bcs_length, HSS.out]; decide) (by rw [bcs_length, HSS.out]; exact isH32) (bcs_one _) ?_; intro w6 o9 z9 b9; rw [lay_all _ _ (by rw [bcs_length, bcs_length, HSS.out]; rfl)] at b9; simp only [Act.put]; have KI := hide b9; have B56 := hide (show Below w5.heap.size w5 w6 from Below.trans ((Below.refl _ w5).alloc (Nat.le_refl _) _) (o9.below (by simp) (fun i hi e => by have h9 : i = w5.heap.size := e; omega))); clear b9 o9 z9))
        have hY6 := (K3.out.under (Below.then_ B35.out B56.out)).bys HSB.out 0 48 (by rw [HSL.out]; decide)
        rw [List.drop_zero] at hY6
        refine (BytesEqual_any w6 A5 (some ⟨w2.heap.size, 0, none⟩) 48 c5 48 128 W (s.take 48) (Y5.out.below B56.out) hY6).mono ?_
        rintro e wx ⟨rfl, rfl⟩
        have B06 := hide (Below.then_ B2.out (Below.then_ B23.out (Below.then_ B35.out B56.out)))
        by_cases he : W = s.take 48
        · have HH0 := hide (show header d half = (G, S) by rw [HH.out, if_neg hr0, if_neg]; rintro (h | h | h); exact hg1 h; exact hg2 h; exact h he)
          rw [decide_eq_true he]
          clear hY6 he HH
          go_wp2_with fail
          refine wp_region_held_drew (S := fun w' => w'.rangeAt w5.heap.size 0 (bcs S)) (by kernel_rfl) (range_under KI.out.whole (Below.refl _ w6).drew) (fun hSA0 => ?_)
          obtain ⟨w6d, hwA⟩ : ∃ x, x = w6.drew := ⟨_, rfl⟩
          have Bd := hide (show Below w6.heap.size w6 w6d by rw [hwA]; exact (Below.refl _ w6).drew)
          rw [← hwA] at hSA0 ⊢
          clear hwA
          (refine wpAnyH_take (i := 0) (oi := ⟨some 46, .move (.tmp 8), 59, "chainlog.go:85", #[], none⟩) (v := ?_) rfl (by kernel_rfl) (by kernel_rfl) (by kernel_rfl) (fun _ _ _ h => h) (Or.inl ⟨by rfl, fun w' hSw => ?_⟩) hSA0 ?_; rotate_left; focus (go_simp; try with_reducible rfl))
          simp only [Act.put, List.setIfInBounds_toArray, List.set_cons_zero, List.set_cons_succ]
          (refine wpAnyH_take (i := 1) (oi := ⟨some 47, .load 80 (.tmp 10), 80, "chainlog.go:85", #[⟨2, .gcOnly .lateStores⟩], none⟩) (v := ?_) rfl (by kernel_rfl) (by kernel_rfl) (by kernel_rfl) (fun _ _ _ h => h) (Or.inl ⟨by rfl, fun w' hSw => ?_⟩) hSA0 ?_; rotate_left; focus (have z1 := loadH_run w' w5.heap.size 0 S hSw HSS.out; go_simp; try with_reducible rfl))
          simp only [Act.put, List.setIfInBounds_toArray, List.set_cons_zero, List.set_cons_succ]
          (refine wpAnyH_take (i := 2) (oi := ⟨some 4, .assign (.tmp 46), 59, "chainlog.go:85", #[⟨0, .data⟩, ⟨0, .phase⟩, { on := 1, ground := Go.Ground.textOnly Go.Departure.lateStores }], none⟩) (v := ?_) rfl (by kernel_rfl) (by kernel_rfl) (by kernel_rfl) (fun _ _ _ h => h) (Or.inl ⟨by rfl, fun w' hSw => ?_⟩) hSA0 ?_; rotate_left; focus (go_simp; try with_reducible rfl))
          simp only [Act.put, List.setIfInBounds_toArray, List.set_cons_zero, List.set_cons_succ]
          refine wpAnyH_ready (rs := [3]) (by kernel_rfl) (by simp) ?_
          refine AllReadyH.cons rfl (fun K hK => ?_) AllReadyH.nil
          refine step_storeB rfl 80 _ _ rfl w.heap.size 0 80 (bcs zero32) (bcs S) (by rfl) (by rfl) (((K2.out.under (Below.then_ B23.out B35.out)).under B56.out).under Bd.out) (by rw [bcs_length, bcs_length, HSS.out]; decide) (by rw [bcs_length, HSS.out]; exact isH32) (bcs_one _) ?_
          intro wz oz zz bz
          rw [lay_all _ _ (by rw [bcs_length, bcs_length, HSS.out]; rfl)] at bz
          have hrz := range_only hSA0 oz (fun h => by have h9 : w5.heap.size = w.heap.size := h; have := K2.out.lt; have := B23.out.size; have := B35.out.size; omega)
          simp only [Act.put]
          refine hK.out _ _ (hrz) (fun hSA1 => ?_)
          clear hK K
          refine wpAnyH_done (by kernel_rfl) ?_ _
          have OZ := hide oz
          have BZ := hide bz
          clear hrz zz oz bz hSA0 hSA1
          go_wp2_with fail
          refine bodyPost_ret (results_tmp_cell_blk rfl _ _ w.heap.size 80 _ _ (by rfl) BZ.out Try.underlying80 rfl (by rw [bcs_length, HSS.out]; exact isH32)) rfl ⟨by rw [HH0.out]; rfl, OZ.out.under (Below.then_ B06.out Bd.out) fun i hi => by have h9 : i = w.heap.size := hi; omega⟩
        · have HH0 := hide (show header d half = (0, nil32) by rw [HH.out, if_neg hr0, if_pos (.inr (.inr he))])
          rw [decide_eq_false he]
          clear hY6 he HH
          go_wp2_with (refine wpList_store_blk rfl 80 _ _ rfl w.heap.size 0 80 (bcs zero32) (bcs zero32) (by rfl) (by rfl) ((K2.out.under (Below.then_ B23.out B35.out)).under B56.out) (Nat.le_refl _) isH32 (bcs_one _) ?_; intro w9 o9 z9 b9; rw [lay_all _ _ rfl] at b9; simp only [Act.put])
          refine bodyPost_ret (results_tmp_cell_blk rfl _ _ w.heap.size 80 _ _ (by rfl) b9 Try.underlying80 rfl isH32) rfl ⟨by rw [HH0.out]; rfl, o9.under B06.out fun i hi => by have h9 : i = w.heap.size := hi; omega⟩
end Go.Proofs.Ytjnpkcabkccaoaa
/-
  chainlog: what counts of a half.
-/
namespace Go.Proofs.Ytjnpkcabkccaoaa
open Go.RowKit

theorem areaFrom_len {d : Dev} (h : d.Good) (half mark : Nat) : ∀ k i, ∃ m, m ≤ k ∧ (areaFrom d half mark k i).length = 120 * m
  | 0, _ => ⟨0, by omega, rfl⟩
  | k + 1, i => by
    rw [areaFrom]
    split
    · obtain ⟨m, hm, e⟩ := areaFrom_len h half mark k (i + 1)
      refine ⟨m + 1, by omega, ?_⟩
      rw [List.length_append, e, List.length_take, h.slab]; omega
    · exact ⟨0, by omega, rfl⟩
theorem area_len {d : Dev} (h : d.Good) (half mark : Nat) : ∃ m, m ≤ d.room ∧ (area d half mark).length = 120 * m := by
  obtain ⟨m, hm, e⟩ := areaFrom_len h half mark (d.room - 1) 1
  exact ⟨m, by omega, e⟩
attribute [local go_sem ↓] loadSlab_fold
set_option maxHeartbeats 4000000 in
set_option maxRecDepth 100000 in
theorem area_any (w : World) (b : Nat) (F : Nat → Prop) (d : Dev) (half mark : Nat) (hh : half ≤ 1) (hm : mark < 18446744073709551616) (h : DevRep w b F d) (hb : d.Bytes) :
    Calls Try.prog 137 #[.pointer (some ⟨b, 0, none⟩), .int .i64 (half : Int), .int .u64 (mark : Int)] w fun e w' => ∃ A n c, e = .returned (.slice A n c) ∧ Mine 5 w w' A n c (area d half mark) ∧ Fr w A := by
  have D0 := hide h
  have HG := hide h.good
  have HB := hide hb
  have hR : d.room ≤ 2048 := by have := h.good.few; unfold Dev.room; omega
  obtain ⟨R, hRR⟩ : ∃ R, R = d.room := ⟨_, rfl⟩
  have HRR := hide hRR
  rw [← hRR] at hR
  have r0 : (0 : Int) ≤ (R : Int) := by omega
  have r9 : (R : Int) ≤ 2048 := by omega
  obtain ⟨P, hP⟩ : ∃ P, P = half * R := ⟨_, rfl⟩
  have hP9 : (P : Int) ≤ 2048 := by
    obtain rfl | rfl : half = 0 ∨ half = 1 := by omega
    · rw [hP]; simp
    · rw [hP]; simp; omega
  have hPw : wrap64 ((half : Int) * (R : Int)) = (P : Int) := by
    rw [half_room, ← hP, ← IntWalk.i64_left, IntKind.wrap_i64]; omega
  have hP0 : (0 : Int) ≤ (P : Int) := by omega
  have HP := hide hP
  have HM := hide hm
  have HAR : Hid (area d half mark = areaFrom d half mark (R - 1) 1) := by rw [hRR]; exact hide rfl
  clear hRR h hb hR hP hm hh
  go_enter Try.func137, Try.ntmps137
  go_wp2_with fail
  go_loopw [7, 8] (fun v i ws => ∃ (j : Nat) (A : Option Addr) (n c : Nat) (bs : List Int), 1 ≤ j ∧ j ≤ R + 1 ∧ i = .int .i64 (j : Int) ∧ v = .slice A n c ∧ Mine 5 w ws A n c bs ∧ Fr w A ∧ area d half mark = bs ++ areaFrom d half mark (R - j) j ∧ n ≤ 120 * j) (fun _ i _ => R + 1 - (intOf i).toNat)
  case atStart => exact ⟨1, none, 0, 0, [], by omega, by omega, rfl, rfl, Mine.nil (Below.refl _ _) _, Fr.none _, by rw [HAR.out]; rfl, by omega⟩
  case round =>
    obtain ⟨j, A, n, c, bs, hj1, hj2, rfl, rfl, hmine, hfr, har, hn⟩ := hrel
    have HFR := hide hfr
    have MR := hide hmine
    have HA := hide har
    have DR := hide (D0.out.under hmine.below)
    have HN := hide hn
    have j0 : (1 : Int) ≤ (j : Int) := by omega
    have j9 : (j : Int) ≤ 2049 := by omega
    have HJ := hide (show 1 ≤ j ∧ j ≤ R + 1 from ⟨hj1, hj2⟩)
    clear hmine hfr har hn hj1 hj2
    go_wp2_with (go_at_call 116; refine (room_any wr b F d DR.out).mono ?_; rintro e wx ⟨rfl, rfl⟩; rw [← HRR.out])
    · have hlt : j < R := by omega
      obtain ⟨s, hs⟩ : ∃ s, s = d.slab (P + j) := ⟨_, rfl⟩
      have HSL := hide (show s.length = 128 by rw [hs]; exact HG.out.slab _)
      have HSB := hide (show Byt s by rw [hs]; exact HB.out.slab _)
      have hstep : areaFrom d half mark (R - j) j = if marked s = mark then s.take 120 ++ areaFrom d half mark (R - (j + 1)) (j + 1) else [] := by
        rw [show R - j = (R - (j + 1)) + 1 by omega, areaFrom, ← HRR.out, ← HP.out, ← hs]
      have HST := hide hstep
      have HLT := hide hlt
      have HS := hide hs
      clear hlt hs hstep
      refine (read_any wr b F d _ DR.out).mono ?_
      rintro e w2 ⟨rfl, b2⟩
      rw [show (d.read ((P : Int) + (j : Int))).1 = s from (slab_read d (P + j) _ (by simp)).trans HS.out.symm]
      obtain ⟨E, hE⟩ : ∃ E, E = (d.read ((P : Int) + (j : Int))).2 := ⟨_, rfl⟩
      rw [← hE]
      have B2 := hide b2
      have KZ2 := hide (Blk.new w2 34 (enc zeroS))
      have hI := hide (isz33' s HSL.out)
      clear hE b2
      go_wp2_with (first
        | (refine wpList_alloc_agg rfl 34 rfl (enc zeroS) zero33 ?_; simp only [Act.put, List.setIfInBounds_toArray, List.set_cons_zero, List.set_cons_succ])
        | (refine wpList_store_blk rfl 34 _ _ rfl w2.heap.size 0 34 (enc zeroS) (enc s) (by rfl) (by rfl) KZ2.out (Nat.le_of_eq (by rw [enc_length, enc_length, HSL.out, zeroS_length])) hI.out (enc_one _) ?_; intro w3 o3 z3 b3; rw [lay_all _ _ (by rw [enc_length, enc_length, HSL.out, zeroS_length])] at b3; have K3 := hide b3; have B23 := hide (show Below w2.heap.size w2 w3 from Below.trans ((Below.refl _ w2).alloc (Nat.le_refl _) _) (o3.below (by simp) (fun i hi e => by have h9 : i = w2.heap.size := e; omega))); have hld := loadSlabR w3 w2.heap.size 0 s b3.whole HSL.out; clear o3 z3 b3; simp only [Act.put]))
      refine (marked_any w3 s HSL.out HSB.out).mono ?_
      rintro e w4 ⟨rfl, b4⟩
      obtain ⟨G, hG⟩ : ∃ G, G = marked s := ⟨_, rfl⟩
      have HGG := hide hG
      rw [← hG]
      have B24 := hide (Below.then_ B23.out b4)
      have B34 := hide b4
      have B04 := hide (Below.then_ B2.out B24.out)
      clear hld hG b4
      by_cases he : G = mark
      · subst he
        have hst := HST.out
        rw [← HGG.out, if_pos rfl] at hst
        have HA2 := hide hst
        clear hst
        go_wp2_with (at_builtin; refine wpList_app4 rfl _ _ rfl w wr A n c bs (by rfl) MR.out B04.out (some ⟨w2.heap.size, 0, none⟩) 120 128 (s.take 120) (by rfl) (by have h9 := (K3.out.under (show Below w3.heap.size w3 w4 from B34.out)).bys HSB.out 0 120 (by rw [HSL.out]; decide); rwa [List.drop_zero] at h9) (by have := HN.out; have := HJ.out; omega) ?_; intro A9 n9 c9 w9 m9 _ f9; have M9 := hide m9; have F9 := hide (f9 (by decide)); clear m9 f9; simp only [Act.put, List.setIfInBounds_toArray, List.set_cons_zero, List.set_cons_succ])
        exact ⟨⟨j + 1, A9, n9, c9, _, by omega, by have := HLT.out; omega, by go_num, rfl, M9.out, F9.out, by rw [HA.out, HA2.out, List.append_assoc], by rw [← M9.out.len, List.length_append, MR.out.len, List.length_take, HSL.out]; have := HN.out; omega⟩, by have := HLT.out; simp [intOf]; omega⟩
      · have hne : ¬ (G : Int) = (mark : Int) := by omega
        have hst := HST.out
        rw [← HGG.out, if_neg he] at hst
        have HA2 := hide hst
        clear hst he
        go_wp2_with fail
        go_ret
        exact ⟨A, n, c, rfl, by rw [HA.out, HA2.out, List.append_nil]; exact MR.out.keep B04.out, HFR.out⟩
    · have hge : R ≤ j := by omega
      have hz : areaFrom d half mark (R - j) j = [] := by rw [show R - j = 0 by omega]; rfl
      have HZ := hide hz
      clear hz
      go_ret
      exact ⟨A, n, c, rfl, by rw [HA.out, HZ.out, List.append_nil]; exact MR.out, HFR.out⟩
end Go.Proofs.Ytjnpkcabkccaoaa
