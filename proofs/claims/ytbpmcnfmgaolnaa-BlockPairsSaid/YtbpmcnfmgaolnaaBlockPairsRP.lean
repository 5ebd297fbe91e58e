import Derived.Test.YtbpmcnfmgaolnaaBlkWP
import Derived.Test.YtbpmcnfmgaolnaaBlkUP
/-
  BlockPairs: the region that sums a row of hashes with its last hash twice.
-/
namespace Go.Proofs.Ytbpmcnfmgaolnaa
open Go.RowKit
section
variable {P : Program} {ops : Array Oper} {Q : Exit → Act → World → Prop} {md : Region.Mode} {S : World → Prop}
theorem tk {i : Nat} {oi : Oper} {v : Value} {fuel : Nat} {listed : Array Bool} {a : Act} {w : World} (hS : S w) (hv : ∀ w, S w → (execOp a.eval oi).run P w = .ok (.value v) w) (h : wpAnyH P md ops Q S fuel (listed.setIfInBounds i true) (a.put oi.dst v) w) (hi : ops[i]? = some oi := by rfl) (hw : Region.wanted oi (yielded ops a.tmps) = true := by rfl) (hs : Region.noSelect ops = true := by kernel_rfl) (hf : Region.free md ops listed i = true := by kernel_rfl) (hr : (Region.ready md ops listed).contains i = true := by kernel_rfl) (hQ : ∀ c a w, Q (.panic c) (a.put oi.dst v) w → Q (.panic c) a w := by exact fun _ _ _ h => h) : wpAnyH P md ops Q S (fuel + 1) listed a w := wpAnyH_take hi hs hf hr hQ (Or.inl ⟨hw, hv⟩) hS h
theorem sT {α : Type} (l : List α) (i : Nat) (a : α) : l.toArray.setIfInBounds i a = (l.set i a).toArray := by simp
theorem sZ {α : Type} (a b : α) (l : List α) : (a :: l).set 0 b = b :: l := rfl
theorem sS {α : Type} (a b : α) (l : List α) (n : Nat) : (a :: l).set (n + 1) b = a :: l.set n b := rfl
end

theorem flat_rangeH {α : Type} {cells : α → List Value} {k : Nat} {w : World} {b : Nat} : ∀ (xs : List α) (off : Nat), (∀ a ∈ xs, (cells a).length = k) → (∀ (i : Nat) (a : α), xs[i]? = some a → w.rangeAt b (off + i * k) (cells a)) → w.rangeAt b off (xs.flatMap cells)
  | [], _, _, _ => fun j v hv => by simp at hv
  | a :: l, off, hl, h => fun j v hv => by
    have ha := hl a (by simp)
    rw [List.flatMap_cons, List.getElem?_append] at hv
    split at hv
    · have := h 0 a rfl j v hv
      simpa using this
    · rename_i hj
      have ih := flat_rangeH l (off + k) (fun x hx => hl x (by simp [hx])) (fun i x hx => by
        have := h (i + 1) x (by simpa using hx)
        rwa [show off + (i + 1) * k = off + k + i * k by rw [Nat.add_mul]; omega] at this) (j - (cells a).length) v hv
      rwa [show off + k + (j - (cells a).length) = off + j by omega] at ih
set_option maxHeartbeats 2000000 in
set_option maxRecDepth 100000 in
theorem flat_oneP (l : List (List Int)) : ∀ v ∈ l.flatMap bcs, v.oneCell' = true := flat_one32 l
theorem flat_snoc (l : List (List Int)) (x : List Int) : (l ++ [x]).flatMap bcs = l.flatMap bcs ++ bcs x := by simp
/-- A block of a hash that is not the row's. -/
def Off (w : World) (v : Value) (q : Nat) (x : List Int) : Prop := Blk w q 31 (bcs x) ∧ v.ownBlock ≠ some q
theorem Off.alloc {w : World} {v : Value} {q : Nat} {x : List Int} (h : Off w v q x) (o : Obj) : Off (w.alloc o) v q x := ⟨h.1.alloc o, h.2⟩
theorem Off.under {w w' : World} {v : Value} {q : Nat} {x : List Int} (h : Off w v q x) (b : Below w.heap.size w w') : Off w' v q x := ⟨h.1.under b, h.2⟩
theorem Off.row {w : World} {v : Value} {q : Nat} {x : List Int} (h : Off w v q x) {o : Obj} : Off (w.alloc o) (.slice (some ⟨w.heap.size, 0, none⟩) 0 0) q x :=
  ⟨h.1.alloc o, fun e => by have h9 := h.1.lt; simp [Value.ownBlock] at e; omega⟩
theorem Off.new {e : TypeId} {k n : Nat} {w0 w : World} {v : Value} {cs : List Value} (h : MineR e k w0 w v n cs) (x : List Int) : Off (w.alloc (.cells (bcs x).toArray 31)) v w.heap.size x :=
  ⟨Blk.new w 31 (bcs x), fun e => by have := (h.block _ e).2; omega⟩
theorem step_offR {w : World} {ops : Array Oper} {o : Oper} {a : Act} {K : Act → World → Prop} {Q : Exit → Act → World → Prop} {E : Prop} (hgd : o.guard = none) (d : Nat) (hd : o.dst = some d) (s x : Operand)
    (ho : o.op = .call { callee := .builtin .append, args := #[s, x], argTypes := #[65, 65] })
    (w0 : World) (v : Value) (n : Nat) (cs : List Value) (hs : a.eval s = v) (h : MineR 31 32 w0 w v n cs)
    (b off m c : Nat) (news : List Value) (hx : a.eval x = .slice (some ⟨b, off, none⟩) m c) (hl : news.length = m * 32) (hnews : w.rangeAt b off news) (h1 : ∀ u ∈ news, u.oneCell' = true)
    (hbytes : (n + m) * 32 ≤ 140737488355328)
    (hK : ∀ A' c' w', MineR 31 32 w0 w' (.slice A' (n + m) c') (n + m) (cs ++ news) → (∀ q y, Off w v q y → Off w' (.slice A' (n + m) c') q y) → K (a.put (some d) (.slice A' (n + m) c')) w') :
    if Region.wanted o (yielded ops a.tmps) = true then Oper.wp Try.prog o a w K Q else E :=
  step_row hgd d hd s x _ ho 31 32 32 Try.underlying65 hash_infoR (by decide) w0.heap.size v n cs hs h.2 h.1.size b off m c news hx hl hnews h1 hbytes (by decide) fun A' c' w' q1 _ q3 q4 =>
    hK A' c' w' ⟨q4.under h.1 (fun i hi => (h.block i hi).1), q1⟩ fun q y hq => ⟨q4.blk hq.1 hq.2, fun e => by
      rcases q3 q e with h9 | h9
      · exact hq.2 h9
      · have := hq.1.lt; omega⟩
theorem step_offR0 {w : World} {ops : Array Oper} {o : Oper} {a : Act} {K : Act → World → Prop} {Q : Exit → Act → World → Prop} {E : Prop} (hgd : o.guard = none) (d : Nat) (hd : o.dst = some d) (s x : Operand)
    (ho : o.op = .call { callee := .builtin .append, args := #[s, x], argTypes := #[65, 65] })
    (w0 : World) (v : Value) (hs : a.eval s = v) (h : MineR 31 32 w0 w v 0 [])
    (b off m c : Nat) (news : List Value) (hx : a.eval x = .slice (some ⟨b, off, none⟩) m c) (hl : news.length = m * 32) (hnews : w.rangeAt b off news) (h1 : ∀ u ∈ news, u.oneCell' = true)
    (hbytes : m * 32 ≤ 140737488355328)
    (hK : ∀ A' c' w', MineR 31 32 w0 w' (.slice A' m c') m news → (∀ q y, Off w v q y → Off w' (.slice A' m c') q y) → K (a.put (some d) (.slice A' m c')) w') :
    if Region.wanted o (yielded ops a.tmps) = true then Oper.wp Try.prog o a w K Q else E :=
  step_offR hgd d hd s x ho w0 v 0 [] hs h b off m c news hx hl hnews h1 (by omega) (by simpa only [Nat.zero_add, List.nil_append] using hK)
theorem mineR_hashes {w0 w : World} {A : Option Addr} {n c : Nat} {l : List (List Int)} (h : MineR 31 32 w0 w (.slice A n c) n (l.flatMap bcs)) (hn : l.length = n) (h0 : 0 < n) (hf : ∀ x ∈ l, x.length = 32 ∧ Byt x) : HashesIn w A n l ∧ n ≤ c := by
  obtain ⟨g, rfl, _, hr⟩ := h.rowB h0
  refine ⟨RowB.hashes hr hn hf, ?_⟩
  rcases h.2.2 with ⟨e1, h9⟩ | ⟨g9, cap, cur, e1, _, _, hnc, _⟩
  · omega
  · injection e1 with _ _ e3; omega
attribute [local go_sem ↓] loadHash_fold eqlHash_fold neqHash_fold mkHs1_fold mkHs2_fold
attribute [local go_sem] guardHash
set_option maxHeartbeats 4000000 in
set_option maxRecDepth 100000 in
theorem pairs_r17 {Q : Exit → Act → World → Prop} (hPan : ∀ c (a : Act) (d : Nat) v w, Q (.panic c) (a.put (some d) v) w → Q (.panic c) a w) (u1 u2 u3 u4 u5 u6 u7 u8 u9 u10 u11 u12 u13 u14 u15 u16 u17 u18 u19 u20 u21 u22 u23 u24 u25 u26 u27 u28 u29 u30 u31 u32 u33 u34 u35 u36 u37 u38 u39 u40 u41 u42 u43 u44 u45 u46 u47 u48 u49 u50 u51 u52 u53 u54 u55 u56 u57 u58 u59 u60 u61 u62 u63 u64 u65 u66 u67 u68 u69 u70 u71 u72 u73 u74 u75 u76 u77 u78 u79 u80 u81 u82 u83 u84 u85 u86 u87 u88 u89 u90 u91 u92 u93 u94 u95 u96 u97 u98 : Value) (w0 wx : World) (hw0 : wx = w0) (pb off n c : Nat) (l : List (List Int)) (x : List Int) (hn0 : 0 < n) (hn9 : n ≤ 60) (hX : Hid (HashesIn w0 (some ⟨pb, off, none⟩) n l)) (hxl : l[n - 1]? = some x)
    (hQ : ∀ (v71 v72 v73 v74 v75 v76 v77 v78 v79 v80 v81 v82 v83 v84 v85 : Value) (w' : World) (p12 : Nat) (H : List Int) (sr : Bool), H = (rootL (l ++ [x])).1 → sr = (rootL (l ++ [x])).2 → Below w0.heap.size w0 w' → Blk w' p12 31 (bcs H) → Q .normal { tmps := List.toArray (.slice (some ⟨pb, off, none⟩) n c :: u1 :: u2 :: u3 :: u4 :: u5 :: u6 :: u7 :: u8 :: u9 :: u10 :: u11 :: .pointer (some ⟨p12, 0, none⟩) :: .bool sr :: u14 :: u15 :: u16 :: u17 :: u18 :: u19 :: u20 :: u21 :: u22 :: u23 :: u24 :: u25 :: u26 :: u27 :: u28 :: u29 :: u30 :: u31 :: u32 :: u33 :: u34 :: u35 :: u36 :: u37 :: u38 :: u39 :: u40 :: u41 :: u42 :: u43 :: u44 :: u45 :: u46 :: u47 :: u48 :: u49 :: u50 :: u51 :: u52 :: u53 :: u54 :: u55 :: u56 :: u57 :: u58 :: u59 :: u60 :: u61 :: u62 :: u63 :: u64 :: u65 :: u66 :: u67 :: u68 :: u69 :: u70 :: v71 :: v72 :: v73 :: v74 :: v75 :: v76 :: v77 :: v78 :: v79 :: v80 :: v81 :: v82 :: v83 :: v84 :: v85 :: u86 :: u87 :: u88 :: u89 :: u90 :: u91 :: u92 :: u93 :: u94 :: u95 :: u96 :: u97 :: u98 :: []), defers := [] } w') :
    (Code.region 17 #[⟨some 72, .buildSlice 65 0 #[], 65, "law.go:178", #[], none⟩, ⟨some 73, .move (.tmp 0), 65, "law.go:178", #[], none⟩, ⟨some 74, .call { callee := .builtin .append, args := #[.tmp 72, .tmp 73], argTypes := #[65, 65] }, 65, "law.go:178", #[⟨0, .data⟩, ⟨1, .data⟩], none⟩, ⟨some 75, .move (.tmp 0), 65, "law.go:178", #[], none⟩, ⟨some 76, .move (.tmp 0), 65, "law.go:178", #[], none⟩, ⟨some 77, .call { callee := .builtin .len, args := #[.tmp 76], argTypes := #[65] }, 3, "law.go:178", #[⟨4, .data⟩], none⟩, ⟨some 78, .binOp .sub 3 (.tmp 77) (.const (.int .i64 1)) 3, 3, "law.go:178", #[⟨5, .data⟩], none⟩, ⟨some 79, .indexAddr 65 (.tmp 75) (.tmp 78), 0, "law.go:178", #[⟨3, .data⟩, ⟨6, .data⟩], none⟩, ⟨some 80, .load 31 (.tmp 79), 31, "law.go:178", #[⟨7, .data⟩], none⟩, ⟨some 81, .buildSlice 65 1 #[(0, .tmp 80)], 65, "law.go:178", #[⟨8, .data⟩], none⟩, ⟨some 82, .call { callee := .builtin .append, args := #[.tmp 74, .tmp 81], argTypes := #[65, 65] }, 65, "law.go:178", #[⟨2, .data⟩, ⟨9, .data⟩, ⟨2, .chain⟩], none⟩, ⟨some 83, .call { callee := .value (.func 29), args := #[.tmp 82], argTypes := #[65] }, 66, "law.go:178", #[⟨10, .data⟩, ⟨10, .chain⟩], none⟩, ⟨some 71, .move (.tmp 83), 66, "law.go:178", #[⟨11, .data⟩], none⟩, ⟨some 84, .extract (.tmp 71) 0, 31, "law.go:178", #[⟨12, .data⟩], none⟩, ⟨some 85, .extract (.tmp 71) 1, 4, "law.go:178", #[⟨12, .data⟩, ⟨16, .gcOnly .lateStores⟩], none⟩, ⟨some 12, .alloc 31, 0, "law.go:178", #[], none⟩, ⟨none, .store 31 (.tmp 12) (.tmp 84), 0, "law.go:178", #[⟨15, .data⟩, ⟨13, .data⟩, ⟨11, .chain⟩, ⟨0, .phase⟩, ⟨1, .phase⟩, ⟨2, .phase⟩, ⟨3, .phase⟩, ⟨4, .phase⟩, ⟨5, .phase⟩, ⟨6, .phase⟩, ⟨7, .phase⟩, ⟨8, .phase⟩, ⟨9, .phase⟩, ⟨10, .phase⟩, ⟨11, .phase⟩, ⟨12, .phase⟩, ⟨13, .phase⟩, { on := 14, ground := Go.Ground.textOnly Go.Departure.lateStores }, ⟨15, .phase⟩], none⟩, ⟨some 13, .assign (.tmp 85), 4, "law.go:178", #[⟨14, .data⟩, ⟨16, .chain⟩, ⟨0, .phase⟩, ⟨1, .phase⟩, ⟨2, .phase⟩, ⟨3, .phase⟩, ⟨4, .phase⟩, ⟨5, .phase⟩, ⟨6, .phase⟩, ⟨7, .phase⟩, ⟨8, .phase⟩, ⟨9, .phase⟩, ⟨10, .phase⟩, ⟨11, .phase⟩, ⟨12, .phase⟩, ⟨13, .phase⟩, ⟨14, .phase⟩, ⟨15, .phase⟩, ⟨16, .phase⟩], none⟩] true).wp Try.prog Q { tmps := List.toArray (.slice (some ⟨pb, off, none⟩) n c :: u1 :: u2 :: u3 :: u4 :: u5 :: u6 :: u7 :: u8 :: u9 :: u10 :: u11 :: u12 :: u13 :: u14 :: u15 :: u16 :: u17 :: u18 :: u19 :: u20 :: u21 :: u22 :: u23 :: u24 :: u25 :: u26 :: u27 :: u28 :: u29 :: u30 :: u31 :: u32 :: u33 :: u34 :: u35 :: u36 :: u37 :: u38 :: u39 :: u40 :: u41 :: u42 :: u43 :: u44 :: u45 :: u46 :: u47 :: u48 :: u49 :: u50 :: u51 :: u52 :: u53 :: u54 :: u55 :: u56 :: u57 :: u58 :: u59 :: u60 :: u61 :: u62 :: u63 :: u64 :: u65 :: u66 :: u67 :: u68 :: u69 :: u70 :: u71 :: u72 :: u73 :: u74 :: u75 :: u76 :: u77 :: u78 :: u79 :: u80 :: u81 :: u82 :: u83 :: u84 :: u85 :: u86 :: u87 :: u88 :: u89 :: u90 :: u91 :: u92 :: u93 :: u94 :: u95 :: u96 :: u97 :: u98 :: []), defers := [] } wx := by
  have hln := hide hX.out.1
  have hx := hide (hX.out.2.1 x (List.mem_of_getElem? hxl))
  have hf1 := hide (show ∀ a ∈ l ++ [x], a.length = 32 ∧ Byt a from fun a ha => by rcases List.mem_append.1 ha with h | h; exact hX.out.2.1 a h; rw [List.mem_singleton.1 h]; exact hx.out)
  have hfl := hide (show (l.flatMap bcs).length = n * 32 by rw [flat_len32 l (fun a ha => (hX.out.2.1 a ha).1), hln.out])
  obtain ⟨b9, o9, e9, hrow⟩ := hX.out.2.2 hn0
  injection e9 with e9
  injection e9 with e1 e2 _
  subst e1
  subst e2
  have hrl := hide (flat_rangeH l off (fun a ha => by rw [bcs_length, (hX.out.2.1 a ha).1]) hrow)
  have hrx := hide (hrow (n - 1) x hxl)
  clear hrow hxl hX
  have hnn : n * 32 ≤ 140737488355328 := by omega
  have i1 : (n : Int) - 1 < (n : Int) := by omega
  have i2 : (0 : Int) ≤ (n : Int) - 1 := by omega
  have i4 : ((n : Int) - 1).toNat = n - 1 := by omega
  have hw1 : IntKind.i64.wrap ((n : Int) - 1) = (n : Int) - 1 := by rw [IntKind.wrap_i64]; omega
  have hn7 : (n : Int) ≤ 60 := by omega
  have i5 : (1 : Int) ≤ (n : Int) := by omega
  have R := hide (show MineR 31 32 w0 wx (.slice none 0 0) 0 [] by rw [hw0]; exact MineR.nil (Below.refl _ _) _ _)
  clear hw0
  refine wp_region_held_drew (S := fun w' => Below w0.heap.size w0 w') (by kernel_rfl) (R.out.below.drew) (fun hS => ?_)
  obtain ⟨wx, hwA⟩ : ∃ z, z = wx.drew := ⟨_, rfl⟩
  replace R := hide R.out.drew
  rw [← hwA] at hS R ⊢
  clear hwA
  (refine tk (i := 1) (oi := ⟨some 73, .move (.tmp 0), 65, "law.go:178", #[], none⟩) (v := ?_) hS (fun w' hSw => ?_) ?_ (hQ := fun c a w h => hPan c a _ _ w h); rotate_left; focus (go_simp; try with_reducible rfl))
  simp only [Act.put, sT, sZ, sS]
  (refine tk (i := 3) (oi := ⟨some 75, .move (.tmp 0), 65, "law.go:178", #[], none⟩) (v := ?_) hS (fun w' hSw => ?_) ?_ (hQ := fun c a w h => hPan c a _ _ w h); rotate_left; focus (go_simp; try with_reducible rfl))
  simp only [Act.put, sT, sZ, sS]
  (refine tk (i := 4) (oi := ⟨some 76, .move (.tmp 0), 65, "law.go:178", #[], none⟩) (v := ?_) hS (fun w' hSw => ?_) ?_ (hQ := fun c a w h => hPan c a _ _ w h); rotate_left; focus (go_simp; try with_reducible rfl))
  simp only [Act.put, sT, sZ, sS]
  (refine tk (i := 5) (oi := ⟨some 77, .call { callee := .builtin .len, args := #[.tmp 76], argTypes := #[65] }, 3, "law.go:178", #[⟨4, .data⟩], none⟩) (v := ?_) hS (fun w' hSw => ?_) ?_ (hQ := fun c a w h => hPan c a _ _ w h); rotate_left; focus (go_simp; try with_reducible rfl))
  simp only [Act.put, sT, sZ, sS]
  (refine tk (i := 6) (oi := ⟨some 78, .binOp .sub 3 (.tmp 77) (.const (.int .i64 1)) 3, 3, "law.go:178", #[⟨5, .data⟩], none⟩) (v := ?_) hS (fun w' hSw => ?_) ?_ (hQ := fun c a w h => hPan c a _ _ w h); rotate_left; focus (go_simp; try with_reducible rfl))
  simp only [Act.put, sT, sZ, sS]
  (refine tk (i := 7) (oi := ⟨some 79, .indexAddr 65 (.tmp 75) (.tmp 78), 0, "law.go:178", #[⟨3, .data⟩, ⟨6, .data⟩], none⟩) (v := ?_) hS (fun w' hSw => ?_) ?_ (hQ := fun c a w h => hPan c a _ _ w h); rotate_left; focus (go_simp; try with_reducible rfl))
  simp only [Act.put, sT, sZ, sS]
  (refine tk (i := 8) (oi := ⟨some 80, .load 31 (.tmp 79), 31, "law.go:178", #[⟨7, .data⟩], none⟩) (v := ?_) hS (fun w' hSw => ?_) ?_ (hQ := fun c a w h => hPan c a _ _ w h); rotate_left; focus (have z1 := loadHashB_run w' pb (off + (n - 1) * 32) x (range_under hrx.out hSw) hx.out.1; go_simp; try with_reducible rfl))
  simp only [Act.put, sT, sZ, sS]
  iterate 6
    all_goals (first
      | refine wpAnyH_ready (rs := [0, 9, 15]) (by decide +kernel) (by simp) ?_
      | refine wpAnyH_ready (rs := [2, 9, 15]) (by decide +kernel) (by simp) ?_
      | refine wpAnyH_ready (rs := [9, 15]) (by decide +kernel) (by simp) ?_
      | refine wpAnyH_ready (rs := [10, 15]) (by decide +kernel) (by simp) ?_
      | refine wpAnyH_ready (rs := [11, 15]) (by decide +kernel) (by simp) ?_
      | refine wpAnyH_ready (rs := [0, 15]) (by decide +kernel) (by simp) ?_
      | refine wpAnyH_ready (rs := [2, 15]) (by decide +kernel) (by simp) ?_
      | refine wpAnyH_ready (rs := [0, 9]) (by decide +kernel) (by simp) ?_
      | refine wpAnyH_ready (rs := [2, 9]) (by decide +kernel) (by simp) ?_
      | refine wpAnyH_ready (rs := [9]) (by decide +kernel) (by simp) ?_
      | refine wpAnyH_ready (rs := [10]) (by decide +kernel) (by simp) ?_
      | refine wpAnyH_ready (rs := [11]) (by decide +kernel) (by simp) ?_
      | refine wpAnyH_ready (rs := [0]) (by decide +kernel) (by simp) ?_
      | refine wpAnyH_ready (rs := [2]) (by decide +kernel) (by simp) ?_
      | refine wpAnyH_ready (rs := [15]) (by decide +kernel) (by simp) ?_
      )
    all_goals (repeat' (first | exact AllReadyH.nil | refine AllReadyH.cons rfl (fun K hK => ?_) ?_))
    all_goals (first
      | (refine step_alloc_agg rfl 31 rfl (bcs zero32) zeroHash_info ?_; (try replace N := hide (N.out.alloc (.cells (bcs zero32).toArray 31))); have KZ := hide (Off.new R.out zero32); obtain ⟨p12, hp⟩ : ∃ p, p = wx.heap.size := ⟨_, rfl⟩; have P12 := hide (show w0.heap.size ≤ p12 by rw [hp]; exact R.out.below.size); replace R := hide (R.out.alloc (.cells (bcs zero32).toArray 31)); obtain ⟨wx, hv⟩ : ∃ z, z = wx.alloc (.cells (bcs zero32).toArray 31) := ⟨_, rfl⟩; rw [← hv] at R; (try rw [← hv] at N); rw [← hp, ← hv] at KZ ⊢; clear hp hv; simp only [Act.put, List.setIfInBounds_toArray]; refine hK.out _ _ R.out.below (fun hS => ?_); clear hK K)
      | (refine step_offR0 rfl _ rfl _ _ rfl w0 _ rfl R.out pb off n c (l.flatMap bcs) rfl hfl.out (range_under hrl.out R.out.below) (flat_oneP l) hnn ?_; intro A1 c1 wx r9 f9; replace R := hide r9; (try replace N := hide (f9 _ _ N.out)); (try replace KZ := hide (f9 _ _ KZ.out)); clear r9 f9; simp only [Act.put, sT, sZ, sS]; refine hK.out _ _ R.out.below (fun hS => ?_); clear hK K)
      | (refine step_offR rfl _ rfl _ _ rfl w0 _ n _ rfl R.out gm 0 1 1 (bcs x) rfl (by rw [bcs_length, hx.out.1]) N.out.1.whole (bcs_one _) (by omega) ?_; intro A2 c2 wx r9 f9; replace R := hide r9; clear N; (try replace KZ := hide (f9 _ _ KZ.out)); clear r9 f9; simp only [Act.put, sT, sZ, sS]; refine hK.out _ _ R.out.below (fun hS => ?_); clear hK K)
      | (have h9 := mineR_hashes (l := l ++ [x]) (by rw [flat_snoc]; exact R.out) (by simp [hln.out]) (by omega) hf1.out; go_simp; go_wp2_with (go_at_call 29; refine (Root_any wx A2 (n + 1) c2 (l ++ [x]) h9.1 (by omega) h9.2).mono ?_; rintro e wx ⟨rfl, b9⟩); replace R := hide (R.out.keep b9); (try replace KZ := hide (KZ.out.under b9)); clear b9 h9; obtain ⟨H, hH⟩ : ∃ s, s = (rootL (l ++ [x])).1 := ⟨_, rfl⟩; have HL := hide (show H.length = 32 by rw [hH]; exact (rootL_len _ hf1.out).1); obtain ⟨sr, hsr⟩ : ∃ s, s = (rootL (l ++ [x])).2 := ⟨_, rfl⟩; rw [← hH, ← hsr]; have HH := hide hH; have HS := hide hsr; clear hsr hH; refine hK.out _ _ R.out.below (fun hS => ?_); clear hK K; (refine tk (i := 12) (oi := ⟨some 71, .move (.tmp 83), 66, "law.go:178", #[⟨11, .data⟩], none⟩) (v := ?_) hS (fun w' hSw => ?_) ?_ (hQ := fun c a w h => hPan c a _ _ w h); rotate_left; focus (go_simp; try with_reducible rfl)); simp only [Act.put, sT, sZ, sS]; (refine tk (i := 13) (oi := ⟨some 84, .extract (.tmp 71) 0, 31, "law.go:178", #[⟨12, .data⟩], none⟩) (v := ?_) hS (fun w' hSw => ?_) ?_ (hQ := fun c a w h => hPan c a _ _ w h); rotate_left; focus (go_simp; try with_reducible rfl)); simp only [Act.put, sT, sZ, sS]; (refine tk (i := 14) (oi := ⟨some 85, .extract (.tmp 71) 1, 4, "law.go:178", #[⟨12, .data⟩, ⟨16, .gcOnly .lateStores⟩], none⟩) (v := ?_) hS (fun w' hSw => ?_) ?_ (hQ := fun c a w h => hPan c a _ _ w h); rotate_left; focus (go_simp; try with_reducible rfl)); simp only [Act.put, sT, sZ, sS])
      | (go_simp; have R2 := hide ((MineR.empty (w := wx) (e := 31) (k := 32) [] rfl).older R.out.below); (try replace N := hide (Off.row (o := (.cells #[] 31)) N.out)); (try replace KZ := hide (Off.row (o := (.cells #[] 31)) KZ.out)); obtain ⟨gz, hgz⟩ : ∃ z, z = wx.heap.size := ⟨_, rfl⟩; obtain ⟨wx, hv⟩ : ∃ z, z = wx.alloc (.cells #[] 31) := ⟨_, rfl⟩; rw [← hgz, ← hv] at R2 ⊢; (try rw [← hgz, ← hv] at N); (try rw [← hgz, ← hv] at KZ); clear hgz hv R; have R := R2; clear R2; refine hK.out _ _ R.out.below (fun hS => ?_); clear hK K)
      | (have hmk := mkHs1_run wx x hx.out.1; go_simp; clear hmk; (try replace KZ := hide (KZ.out.alloc (.cells (bcs x).toArray 31))); have N := hide (Off.new R.out x); replace R := hide (R.out.alloc (.cells (bcs x).toArray 31)); obtain ⟨gm, hgm⟩ : ∃ z, z = wx.heap.size := ⟨_, rfl⟩; obtain ⟨wx, hv⟩ : ∃ z, z = wx.alloc (.cells (bcs x).toArray 31) := ⟨_, rfl⟩; rw [← hgm, ← hv] at N ⊢; rw [← hv] at R; (try rw [← hv] at KZ); clear hv hgm; refine hK.out _ _ R.out.below (fun hS => ?_); clear hK K)
      )
  all_goals (
    refine wpAnyH_ready (rs := [16]) (by decide +kernel) (by simp) ?_
    refine AllReadyH.cons rfl (fun K hK => ?_) AllReadyH.nil
    refine step_store_blk rfl 31 _ _ rfl p12 0 31 (bcs zero32) (bcs H) rfl rfl KZ.out.1 (by rw [bcs_length, bcs_length, HL.out]; decide) (by rw [bcs_length, HL.out]; exact isHash32) (bcs_one _) ?_
    intro w9 o9 z9 b9
    rw [lay_all _ _ (by rw [bcs_length, bcs_length, HL.out]; rfl)] at b9
    have B9 := hide (o9.under R.out.below (fun i hi => by have h9 : i = p12 := hi; have := P12.out; omega))
    simp only [Act.put]
    refine hK.out _ _ B9.out (fun hS => ?_)
    clear hK K
    (refine tk (i := 17) (oi := ⟨some 13, .assign (.tmp 85), 4, "law.go:178", #[⟨14, .data⟩, ⟨16, .chain⟩, ⟨0, .phase⟩, ⟨1, .phase⟩, ⟨2, .phase⟩, ⟨3, .phase⟩, ⟨4, .phase⟩, ⟨5, .phase⟩, ⟨6, .phase⟩, ⟨7, .phase⟩, ⟨8, .phase⟩, ⟨9, .phase⟩, ⟨10, .phase⟩, ⟨11, .phase⟩, ⟨12, .phase⟩, ⟨13, .phase⟩, ⟨14, .phase⟩, ⟨15, .phase⟩, ⟨16, .phase⟩], none⟩) (v := ?_) hS (fun w' hSw => ?_) ?_ (hQ := fun c a w h => hPan c a _ _ w h); rotate_left; focus (go_simp; try with_reducible rfl))
    simp only [Act.put, List.setIfInBounds_toArray]
    refine wpAnyH_done (by kernel_rfl) ?_ _
    exact hQ _ _ _ _ _ _ _ _ _ _ _ _ _ _ _ w9 p12 H sr HH.out HS.out B9.out b9)
end Go.Proofs.Ytbpmcnfmgaolnaa
