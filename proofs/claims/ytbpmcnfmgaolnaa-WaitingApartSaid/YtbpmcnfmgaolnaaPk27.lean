import Derived.Test.YtbpmcnfmgaolnaaPk26
/-
  Waiting: the chapter's example: what it needs.
-/
namespace Go.Proofs.Ytbpmcnfmgaolnaa
open Go.RowKit

/-- A head that has a number, and what stands ahead of it. -/
def headNP (v : Int) (p : List Int) : HeadD := ⟨0, p, List.replicate 32 0, 0, 0, v⟩
def hash1 (a : Int) : List Int := a :: List.replicate 31 0
theorem hash1_len (a : Int) : (hash1 a).length = 32 := rfl
theorem hash1_byt {a : Int} (h : 0 ≤ a ∧ a ≤ 255) : Byt (hash1 a) := by
  intro x hx
  rcases List.mem_cons.1 hx with rfl | hx
  · exact h
  · have := List.eq_of_mem_replicate hx; omega
theorem headNP_fine {v : Int} (h : 0 ≤ v ∧ v ≤ 4294967295) {p : List Int} (hl : p.length = 32) (hb : Byt p) : (headNP v p).Fine := ⟨zeroH_fine.version, hl, hb, zeroH_fine.rlen, zeroH_fine.rbyt, zeroH_fine.time, zeroH_fine.bits, h⟩
abbrev headN (v : Int) : HeadD := headNP v (hash1 0)
theorem headN_fine {v : Int} (h : 0 ≤ v ∧ v ≤ 4294967295) : (headN v).Fine := headNP_fine h rfl (hash1_byt (by decide))
theorem mkHead_n (v : Int) (w : World) : (mkHead #[(5, .int .u32 v)]).run Try.prog w = .ok (.agg (headN v).cells.toArray) w := by kernel_rfl
theorem mkHead_np (v a : Int) (w : World) : (mkHead #[(5, .int .u32 v), (1, .agg (bcs (hash1 a)).toArray)]).run Try.prog w = .ok (.agg (headNP v (hash1 a)).cells.toArray) w := by kernel_rfl
theorem mkHash_1 (a : Int) (w : World) : (mkHash #[(0, .int .u8 a)]).run Try.prog w = .ok (.agg (bcs (hash1 a)).toArray) w := by kernel_rfl
/-- A block of no transactions. -/
def bareB (h : HeadD) : BlkV := ⟨h, none, 0, 0, []⟩
theorem bareB_fine {h : HeadD} (hf : h.Fine) (w : World) : (bareB h).Fine w := ⟨hf, RowsIn.nil _ _ _ _ _, Nat.le_refl _⟩
theorem bareB_small (h : HeadD) : (bareB h).Small := ⟨Nat.zero_le _, fun t ht => by cases ht⟩
theorem bareB_good {h : HeadD} (hf : h.Fine) : (bareB h).Good := ⟨bareB_small h, ⟨hf, Nat.zero_le _, fun t ht => by cases ht⟩, by
  have : (bareB h).d.bytes.length = 81 := by
    show (h.bytes ++ cnt 0 ++ []).length = 81
    rw [List.append_nil, List.length_append, HeadD.bytes_len hf]; rfl
  omega⟩
theorem mkBlk_bare (h : HeadD) (hf : h.Fine) (w : World) : (mkBlk #[(0, .agg h.cells.toArray)]).run Try.prog w = .ok (.agg (bareB h).cells.toArray) w := mkBlk_head h hf w
def bareD (h : HeadD) : BlkD := ⟨h, []⟩
theorem bareB_d (h : HeadD) : (bareB h).d = bareD h := rfl
/-! ### The nine -/
def nine (j : Nat) : BlkD := bareD (headN (j : Int))
def nines : List BlkD := (List.range 9).map nine

set_option maxRecDepth 100000 in
theorem nine_0 : sha2 (nine 0).head.bytes = [75, 231, 87, 14, 143, 112, 235, 9, 54, 64, 200, 70, 130, 116, 186, 117, 151, 69, 167, 170, 43, 125, 37, 171, 30, 4, 33, 178, 89, 132, 80, 20] := by kernel_rfl

set_option maxRecDepth 100000 in
theorem nine_1 : sha2 (nine 1).head.bytes = [105, 243, 138, 76, 85, 59, 148, 240, 92, 151, 79, 77, 187, 221, 146, 215, 188, 99, 41, 33, 208, 130, 57, 163, 61, 17, 250, 175, 165, 156, 252, 48] := by kernel_rfl

set_option maxRecDepth 100000 in
theorem nine_2 : sha2 (nine 2).head.bytes = [108, 63, 122, 35, 8, 118, 175, 187, 139, 196, 181, 170, 34, 123, 168, 50, 200, 155, 120, 166, 206, 211, 192, 249, 166, 65, 66, 196, 251, 210, 3, 1] := by kernel_rfl

set_option maxRecDepth 100000 in
theorem nine_3 : sha2 (nine 3).head.bytes = [123, 130, 212, 69, 139, 128, 198, 183, 21, 69, 23, 130, 94, 6, 12, 237, 201, 37, 238, 195, 13, 152, 96, 123, 44, 104, 224, 188, 238, 44, 73, 99] := by kernel_rfl

set_option maxRecDepth 100000 in
theorem nine_4 : sha2 (nine 4).head.bytes = [84, 202, 11, 111, 195, 90, 117, 87, 164, 148, 255, 155, 134, 153, 251, 162, 130, 201, 6, 100, 83, 43, 87, 147, 119, 56, 168, 79, 84, 155, 14, 249] := by kernel_rfl

set_option maxRecDepth 100000 in
theorem nine_5 : sha2 (nine 5).head.bytes = [151, 99, 138, 87, 141, 235, 186, 227, 107, 23, 113, 38, 203, 164, 91, 70, 75, 212, 114, 196, 161, 100, 254, 56, 140, 188, 111, 126, 69, 51, 208, 93] := by kernel_rfl

set_option maxRecDepth 100000 in
theorem nine_6 : sha2 (nine 6).head.bytes = [103, 193, 211, 194, 145, 220, 39, 194, 2, 82, 63, 71, 20, 14, 77, 62, 66, 106, 161, 104, 37, 203, 32, 203, 206, 14, 201, 217, 18, 38, 68, 171] := by kernel_rfl

set_option maxRecDepth 100000 in
theorem nine_7 : sha2 (nine 7).head.bytes = [185, 90, 174, 12, 32, 75, 57, 215, 8, 229, 153, 83, 60, 163, 5, 74, 47, 141, 154, 174, 202, 53, 211, 40, 37, 31, 64, 112, 149, 227, 168, 228] := by kernel_rfl

set_option maxRecDepth 100000 in
theorem nine_8 : sha2 (nine 8).head.bytes = [16, 162, 89, 248, 91, 31, 191, 158, 21, 144, 93, 169, 99, 76, 17, 182, 229, 90, 13, 178, 225, 99, 142, 77, 71, 80, 194, 7, 100, 28, 121, 244] := by kernel_rfl

theorem nines_sole : Sole nines := by
  have : (nines.map fun b => sha2 b.head.bytes) = [sha2 (nine 0).head.bytes, sha2 (nine 1).head.bytes, sha2 (nine 2).head.bytes, sha2 (nine 3).head.bytes, sha2 (nine 4).head.bytes, sha2 (nine 5).head.bytes, sha2 (nine 6).head.bytes, sha2 (nine 7).head.bytes, sha2 (nine 8).head.bytes] := rfl
  rw [Sole, this, nine_0, nine_1, nine_2, nine_3, nine_4, nine_5, nine_6, nine_7, nine_8]
  decide

/-- What is there behind j of them. -/
def ninth (j : Nat) : List BlkD := if j ≤ 8 then (List.range j).map nine else ((List.range 9).map nine).tail
theorem ninth_next (j : Nat) (hj : j < 9) : addD (ninth j) (nine j) = (ninth (j + 1), true) := by
  have hs : Sole ((List.range j).map nine ++ [nine j]) := by
    have h1 : (List.range j).map nine ++ [nine j] = (List.range (j + 1)).map nine := by rw [List.range_succ, List.map_append]; rfl
    rw [h1]
    refine nines_sole.sublist ?_
    unfold nines
    refine List.Sublist.map _ ?_
    have : List.range 9 = List.range (j + 1) ++ (List.range (9 - (j + 1))).map (j + 1 + ·) := by rw [← List.range_add, show j + 1 + (9 - (j + 1)) = 9 by omega]
    rw [this]
    exact List.sublist_append_left _ _
  have hn : ninth j = (List.range j).map nine := if_pos (by omega)
  rw [hn]
  by_cases h8 : j < 8
  · rw [addD_new hs (by simpa using h8), ninth, if_pos (by omega), List.range_succ, List.map_append]; rfl
  · obtain rfl : j = 8 := by omega
    have hno : ¬ hasD ((List.range 8).map nine) (sha2 (nine 8).head.bytes) = true := fun h9 => by
      rw [hasD_iff] at h9
      rw [Sole, List.map_append, List.nodup_append] at hs
      exact hs.2.2 _ h9 _ (by simp) rfl
    rw [addD, if_neg hno, if_pos (by simp), ninth, if_neg (by decide)]
    rfl
theorem ninth_sole (j : Nat) (hj : j ≤ 9) : Sole (ninth j) := by
  refine nines_sole.sublist ?_
  unfold ninth
  split
  · unfold nines
    refine List.Sublist.map _ ?_
    have : List.range 9 = List.range j ++ (List.range (9 - j)).map (j + ·) := by rw [← List.range_add, show j + (9 - j) = 9 by omega]
    rw [this]
    exact List.sublist_append_left _ _
  · exact List.tail_sublist _
theorem ninth_len : (ninth 9).length = 8 := rfl
theorem ninth_0 : (ninth 9)[0]? = some (nine 1) := rfl
theorem ninth_take : takeD (ninth 9) (hash1 0) = (ninth 9, []) := by
  have : ∀ b ∈ ninth 9, upon (hash1 0) b = true := fun b hb => by
    have hb2 : b ∈ (List.range 9).map nine := List.mem_of_mem_tail hb
    obtain ⟨j, _, rfl⟩ := List.mem_map.1 hb2
    show (hash1 0 == hash1 0) = true
    simp
  rw [takeD, List.filter_eq_self.2 this, List.filter_eq_nil_iff.2 fun b hb => by rw [this b hb]; decide]
end Go.Proofs.Ytbpmcnfmgaolnaa
/-
  Waiting: the chapter's example.
-/
namespace Go.Proofs.Ytbpmcnfmgaolnaa
open Go.RowKit

theorem Only.ring {w0 w1 ws : World} {g : Nat} (hb : Below w0.heap.size w0 w1) (hg : w0.heap.size ≤ g) (ho : Only (fun i => i = g) w1 ws) : Below w0.heap.size w0 ws :=
  hb.trans (ho.below hb.size fun i hi e => by have h9 : i = g := e; omega)
attribute [local go_sem ↓] mkHead_fold mkBlk_fold mkHash_fold
attribute [local go_sem] mkHead_n mkHash_zero
set_option maxHeartbeats 4000000 in
set_option maxRecDepth 100000 in
theorem waitAlive_any (w : World) : Calls Try.prog 15 #[] w fun e w' => e = .returned (.bool true) ∧ Below w.heap.size w w' := by
  go_enter Try.func15, Try.ntmps15
  go_wp2_with fail
  refine (WNewD_any _).mono ?_
  rintro e w1 ⟨g, rfl, hg, b1, hr⟩
  have R1 := hide (hr (fun _ => False))
  have HG := hide hg
  have B1 := hide b1
  clear hg b1 hr
  go_wp2_with fail
  go_loopw [2] (fun v ws => ∃ j : Nat, j ≤ 9 ∧ v = .int .u32 (j : Int) ∧ RingIs ws g (fun _ => False) (ninth j) ∧ Only (fun i => i = g) w1 ws) (fun v _ => 9 - (intOf v).toNat)
  case atStart => exact ⟨0, by omega, rfl, R1.out, Only.refl _ _⟩
  case round =>
    obtain ⟨j, hj, rfl, hri, ho⟩ := hrel
    have HR := hide hri
    have HO := hide ho
    clear hri ho
    by_cases hlt : j < 9
    · have i1 : (j : Int) < 9 := by omega
      have i0 : (0 : Int) ≤ (j : Int) := by omega
      have hjm := hide hlt
      have HF := hide (headN_fine (v := (j : Int)) ⟨by omega, by omega⟩)
      have hmb := mkBlk_bare (headN (j : Int)) HF.out wr
      clear hlt
      go_wp2_with fail
      refine (Add_any wr g _ (ninth j) (bareB (headN (j : Int))) HR.out (bareB_fine HF.out _) (bareB_good HF.out) (fun i h => h.elim)).mono ?_
      rintro e w2 ⟨rfl, r2, o2⟩
      rw [show (bareB (headN (j : Int))).d = nine j from rfl, ninth_next j hjm.out] at r2 ⊢
      have R2 := hide r2
      have O2 := hide o2
      clear r2 o2 hmb
      go_wp2_with fail
      exact ⟨⟨j + 1, by have := hjm.out; omega, by go_num, R2.out, HO.out.trans O2.out fun _ _ h => h⟩, by have := hjm.out; simp [intOf]; omega⟩
    · obtain rfl : j = 9 := by omega
      obtain ⟨L, hL⟩ : ∃ L, L = ninth 9 := ⟨_, rfl⟩
      rw [← hL] at HR
      have HLL := hide (show L.length = 8 by rw [hL]; rfl)
      have HS := hide (show Sole L by rw [hL]; exact ninth_sole 9 (by omega))
      have HT := hide (show takeD L zero32 = (L, []) by rw [hL]; exact ninth_take)
      have H0 := hide (show L[0]? = some (nine 1) by rw [hL]; exact ninth_0)
      clear hL hj
      have BR := hide (Only.ring B1.out HG.out HO.out)
      go_wp2_with fail
      refine (All_any wr g _ L HR.out).mono ?_
      rintro e w2 ⟨A, c, xs, rfl, hx, hd, b2⟩
      have R2 := hide (HR.out.under b2)
      have B2 := hide (Below.then_ BR.out b2)
      obtain ⟨x, hx0⟩ : ∃ x, xs[0]? = some x := ⟨_, List.getElem?_eq_getElem (by rw [hx.len, HLL.out]; decide)⟩
      have hxn : x.head.nonce = 1 := by
        have h1 : (xs.map BlkV.d)[0]? = some (nine 1) := by rw [hd]; exact H0.out
        rw [List.getElem?_map, hx0] at h1
        have h2 : x.d = nine 1 := by simpa using h1
        have : x.head = headN 1 := by rw [show x.head = x.d.head from rfl, h2]; rfl
        rw [this]; rfl
      obtain ⟨pb, off, hA, hrow⟩ := hx.in_.2.2 (by rw [HLL.out]; decide)
      subst hA
      have hxf := (hx.fine x (List.mem_of_getElem? hx0)).head
      have c0 : w2.cell? ⟨pb, off + 67, none⟩ = some (.int .u32 1) := by
        have := hrow 0 x hx0 67 (.int .u32 x.head.nonce) (by rw [BlkV.cells, head_at hxf]; rfl)
        rw [hxn] at this
        simpa using this
      rw [HLL.out]
      clear hx hd hx0 hrow hxf b2
      go_wp2_with fail
      refine (WLenD_any w2 g _ L R2.out).mono ?_
      rintro e wz ⟨rfl, rfl⟩
      rw [HLL.out]
      go_wp2_with fail
      refine (Take_any wz g _ L zero32 R2.out HS.out rfl (fun i h => h.elim)).mono ?_
      rintro e w3 ⟨A3, n3, c3, ys, rfl, hy, hyd, r3, o3⟩
      rw [HT.out] at hyd r3
      have h3 : n3 = 8 := by rw [← hy.len, ← HLL.out, ← List.length_map (f := BlkV.d), hyd]
      subst h3
      have R3 := hide r3
      have B3 := hide (B2.out.trans (o3.below B2.out.size fun i hi e => by have h9 : i = g := e; have := HG.out; have := B1.out.size; omega))
      clear hy hyd r3 o3
      go_wp2_with fail
      refine (WLenD_any w3 g _ [] R3.out).mono ?_
      rintro e wz2 ⟨rfl, rfl⟩
      go_wp2_with fail
      go_ret
      exact ⟨rfl, B3.out⟩
end Go.Proofs.Ytbpmcnfmgaolnaa
/-
  Waiting: the document's Add.
-/
namespace Go.Proofs.Ytbpmcnfmgaolnaa
open Go.RowKit

section
variable {P : Program}
/-- An append of a whole row, perhaps of none, to a row of one's own. -/
theorem step_rows {w : World} {ops : Array Oper} {o : Oper} {a : Act} {K : Act → World → Prop} {Q : Exit → Act → World → Prop} {E : Prop} (hgd : o.guard = none) (d : Nat) (hd : o.dst = some d) (s x : Operand) (t : TypeId)
    (ho : o.op = .call { callee := .builtin .append, args := #[s, x], argTypes := #[t, t] })
    (e : TypeId) (k by_ : Nat) (ht : P.underlying t = some (.slice e)) (hi : (P.info? e).map (fun i => (i.size, i.bytes, i.zero.map (fun z => z.cells.size))) = some (k, by_, some k)) (hk : 0 < k)
    (w0 : World) (v : Value) (n : Nat) (cs : List Value) (hs : a.eval s = v) (h : MineR e k w0 w v n cs)
    (B : Option Addr) (m c : Nat) (news : List Value) (hx : a.eval x = .slice B m c) (hl : news.length = m * k) (hnews : 0 < m → ∃ b off, B = some ⟨b, off, none⟩ ∧ w.rangeAt b off news) (h1 : ∀ u ∈ news, u.oneCell' = true)
    (hbytes : (n + m) * by_ ≤ 140737488355328) (hby : 0 < by_)
    (hK : ∀ A' c' w', MineR e k w0 w' (.slice A' (n + m) c') (n + m) (cs ++ news) → Only (fun i => v.ownBlock = some i) w w' → K (a.put (some d) (.slice A' (n + m) c')) w') :
    if Region.wanted o (yielded ops a.tmps) = true then Oper.wp P o a w K Q else E := by
  rcases Nat.eq_zero_or_pos m with h0 | h0
  · subst h0
    obtain rfl : news = [] := List.eq_nil_of_length_eq_zero (by rw [hl]; omega)
    obtain ⟨A, c2, hv, hc, _⟩ := h.rows hk
    rw [if_pos (by simp [Region.wanted, hgd])]
    rw [← hd] at hK
    obtain ⟨i, hi1⟩ : ∃ i, P.info? e = some i := by
      cases hq : P.info? e with
      | none => simp [hq] at hi
      | some i => exact ⟨i, rfl⟩
    have hrun := run_append_none (P := P) w t o.type e i ht hi1 A B n c2 c hc
    unfold Oper.wp execOp
    simp only [ho, resolve, invoke, builtin, Sem.run_bind, Sem.run_pure, Result.andThen_ok, List.map_toArray, List.map_cons, List.map_nil, hs, hx, hv, hrun]
    refine hK A c2 w ?_ (Only.refl _ _)
    rw [List.append_nil, Nat.add_zero, ← hv]
    exact h
  · obtain ⟨b, off, rfl, hr⟩ := hnews h0
    exact step_row hgd d hd s x t ho e k by_ ht hi hk w0.heap.size v n cs hs h.2 h.1.size b off m c news hx hl hr h1 hbytes hby fun A' c' w' q1 _ _ q4 => hK A' c' w' ⟨q4.under h.1 (fun i e => (h.block i e).1), q1⟩ q4
end
theorem BlksIn.range {w : World} {A : Option Addr} {n : Nat} {xs : List BlkV} (h : BlksIn w A n xs) (hn : 0 < n) : ∃ b off, A = some ⟨b, off, none⟩ ∧ w.rangeAt b off (xs.flatMap BlkV.cells) := by
  obtain ⟨h1, h2, h3⟩ := h
  obtain ⟨b, off, e, hr⟩ := h3 hn
  refine ⟨b, off, e, fun j v hv => ?_⟩
  have hf : ∀ x ∈ xs, x.head.Fine := fun x hx => (h2 x hx).head
  have hl := items_len xs hf
  have hj : j < xs.length * 69 := by rw [← hl]; exact (List.getElem?_eq_some_iff.1 hv).1
  have hq : j / 69 < xs.length := by omega
  have e1 := items_get xs hf (j / 69) xs[j / 69] (List.getElem?_eq_getElem hq) (j % 69) (Nat.mod_lt _ (by decide))
  rw [show j / 69 * 69 + j % 69 = j by omega, hv] at e1
  have := hr (j / 69) _ (List.getElem?_eq_getElem hq) (j % 69) v e1.symm
  rwa [show off + j / 69 * 69 + j % 69 = off + j by omega] at this
theorem items_one (xs : List BlkV) : ∀ v ∈ xs.flatMap BlkV.cells, v.oneCell' = true := by
  intro v hv
  obtain ⟨b, _, hb⟩ := List.mem_flatMap.1 hv
  exact b.one v hb
theorem slice_blks (g m c : Nat) (hm : 1 ≤ m) (_hc : m ≤ c) (h1 : 1 < c) (w : World) : (Instr.slice 26 (.slice (some ⟨g, 0, none⟩) m c) (some (.int .i64 1)) none none).run Try.prog w = .ok (.slice (some ⟨g, 69, none⟩) (m - 1) (c - 1)) w := by
  have hel : Try.prog.elem 26 = 40 := by kernel_rfl
  have hu : Try.prog.underlying 26 = some (.slice (Try.prog.elem 26)) := by rw [hel]; exact Try.underlying26
  have := run_slice_l (P := Try.prog) w _ (some ⟨g, 0, none⟩) m c hu .i64 1 (by omega) (by omega)
  rw [hel, run_size isBlk w] at this
  rw [this]
  have hne : ¬ c = 1 := by omega
  simp [Result.andThen, sliced, hne, Addr.add]
def sliceB (v : Value) : Sem Value := Instr.slice 26 v (some (.int .i64 1)) none none
theorem sliceB_fold (v : Value) : Instr.slice 26 v (some (.int .i64 1)) none none = sliceB v := rfl
theorem sliceB_run (g m c : Nat) (hm : 1 ≤ m) (hc : m ≤ c) (h1 : 1 < c) (w : World) : (sliceB (.slice (some ⟨g, 0, none⟩) m c)).run Try.prog w = .ok (.slice (some ⟨g, 69, none⟩) (m - 1) (c - 1)) w := slice_blks g m c hm hc h1 w
attribute [local go_sem ↓] loadBlk_fold loadHead_fold mkBs1_fold sliceB_fold
def RAddPost (base : Nat) (w : World) (L : List BlkD) (b : BlkD) (e : Ending) (w' : World) : Prop :=
  ∃ (A' : Option Addr) (n' c' : Nat) (ys : List BlkV), e = .returned (.tuple #[.slice A' n' c', .bool (addD L b).2]) ∧ LRow base w' A' n' ys ∧ ys.map BlkV.d = (addD L b).1 ∧ Below w.heap.size w w'
set_option maxHeartbeats 4000000 in
set_option maxRecDepth 100000 in
theorem refWAdd_any (base : Nat) (w : World) (A : Option Addr) (n c : Nat) (xs : List BlkV) (b : BlkV) (hX : LRow base w A n xs) (hn : n ≤ 8) (hb : KeepB w b (fun i => i < base)) (hg : b.Good) :
    Calls Try.prog 21 #[.slice A n c, .agg b.cells.toArray] w (RAddPost base w (xs.map BlkV.d) b.d) := by
  have b1 : Below w.heap.size w (w.alloc (.cells b.cells.toArray 40)) := below_alloc (Below.refl _ _) _
  have X1 := hide (hX.under b1)
  have F1 := hide (hb.under b1)
  have FH := hide hb.fine.head
  have B1 := hide b1
  have HG := hide hg
  have K1 := hide (Blk.new w 40 b.cells)
  have hlh := loadHead_run _ w.heap.size 0 b.head (blk_head K1.out) FH.out
  have HDH := hide (show b.d.head = b.head from rfl)
  have HN := hide hn
  have HLW := hide hX.low
  clear hX hn hb hg b1
  go_enter Try.func21, Try.ntmps21
  go_wp2_with fail
  refine (refBId_any _ b.head FH.out).mono ?_
  rintro e w2 ⟨rfl, b2⟩
  obtain ⟨X, hX⟩ : ∃ X, X = sha2 b.head.bytes := ⟨_, rfl⟩
  rw [← hX]
  have HX := hide hX
  have HXL := hide (show X.length = 32 by rw [hX]; exact sha2_len _)
  have X2 := hide (X1.out.under b2)
  have F2 := hide (F1.out.under b2)
  have K2 := hide (K1.out.under b2)
  have B2 := hide (Below.then_ B1.out b2)
  clear b2 hX hlh
  go_wp2_with fail
  refine (refWHas_any w2 A n c xs X X2.out.in_ (by have := HN.out; omega) HXL.out).mono ?_
  rintro e w3 ⟨rfl, b3⟩
  have X3 := hide (X2.out.under b3)
  have F3 := hide (F2.out.under b3)
  have K3 := hide (K2.out.under b3)
  have B3 := hide (Below.then_ B2.out b3)
  clear b3 X1 X2 F1 F2 K1 K2
  by_cases hq : hasL xs X = true
  · have HA := hide (show addD (xs.map BlkV.d) b.d = (xs.map BlkV.d, false) by rw [addD, HDH.out, ← HX.out, ← hasL_d, if_pos hq])
    rw [hq]
    clear hq
    go_wp2_with fail
    go_ret2
    exact ⟨A, n, c, xs, by rw [HA.out]; rfl, X3.out, by rw [HA.out], B3.out⟩
  · have HA := hide (show addD (xs.map BlkV.d) b.d = ((if n = 8 then (xs.map BlkV.d).tail else xs.map BlkV.d) ++ [b.d], true) by rw [addD, HDH.out, ← HX.out, ← hasL_d, if_neg hq, List.length_map, X3.out.len])
    rw [show hasL xs X = false by simpa using hq]
    clear hq
    go_wp2_with fail
    have HH := hide (show ∀ x ∈ xs, x.head.Fine from fun x hx => (X3.out.in_.2.1 x hx).head)
    have HXN := hide X3.out.len
    refine wp_region_held_drew (S := fun w' => Below w3.heap.size w3 w') (by kernel_rfl) ((Below.refl _ w3).drew) (fun hSA0 => ?_)
    obtain ⟨w3d, hwA⟩ : ∃ x, x = w3.drew := ⟨_, rfl⟩
    rw [← hwA] at hSA0 ⊢
    clear hwA
    (refine wpAnyH_take (i := 1) (oi := ⟨some 14, .move (.tmp 0), 26, "ref.go:24", #[], none⟩) (v := ?_) rfl (by kernel_rfl) (by kernel_rfl) (by kernel_rfl) (fun _ _ _ h => h) (Or.inl ⟨by rfl, fun w' hSw => ?_⟩) hSA0 ?_; rotate_left; focus (go_simp; try with_reducible rfl))
    simp only [Act.put, List.setIfInBounds_toArray, List.set_cons_zero, List.set_cons_succ]
    (refine wpAnyH_take (i := 3) (oi := ⟨some 16, .load 40 (.tmp 3), 40, "ref.go:24", #[], none⟩) (v := ?_) rfl (by kernel_rfl) (by kernel_rfl) (by kernel_rfl) (fun _ _ _ h => h) (Or.inl ⟨by rfl, fun w' hSw => ?_⟩) hSA0 ?_; rotate_left; focus (have z1 := loadBlk_run w' w.heap.size 0 b (range_under K3.out.whole hSw) FH.out; go_simp; try with_reducible rfl))
    simp only [Act.put, List.setIfInBounds_toArray, List.set_cons_zero, List.set_cons_succ]
    refine wpAnyH_ready (rs := [0, 4]) (by kernel_rfl) (by simp) ?_
    refine AllReadyH.cons rfl (fun K hK => ?_) (AllReadyH.cons rfl (fun K hK => ?_) AllReadyH.nil)
    · go_simp
      obtain ⟨w3dE, hz⟩ : ∃ z, z = w3d.alloc (.cells #[] 40) := ⟨_, rfl⟩
      rw [← hz]
      obtain ⟨p, hp⟩ : ∃ p, p = w3d.heap.size := ⟨_, rfl⟩
      rw [← hp]
      have b9 : Below w3d.heap.size w3d w3dE := by rw [hz]; exact below_alloc (Below.refl _ _) _
      have Sw3dE := hide (Below.then_ hSA0 b9)
      have Ew3dE := hide (show MineR 40 69 w3 w3dE (.slice (some ⟨p, 0, none⟩) 0 0) 0 [] by rw [hz, hp]; exact (MineR.empty [] rfl).older hSA0)
      clear hz hp b9
      refine hK.out _ _ (Sw3dE.out) (fun hSA1 => ?_)
      clear hK K
      refine wpAnyH_ready (rs := [2, 4]) (by kernel_rfl) (by simp) ?_
      refine AllReadyH.cons rfl (fun K hK => ?_) (AllReadyH.cons rfl (fun K hK => ?_) AllReadyH.nil)
      · refine step_rows rfl 15 rfl _ _ 26 rfl 40 69 104 Try.underlying26 blk_infoR (by decide) w3 (.slice (some ⟨p, 0, none⟩) 0 0) 0 [] (by rfl) Ew3dE.out A n c (xs.flatMap BlkV.cells) (by rfl) (by rw [items_len _ HH.out, HXN.out]) (fun h => (X3.out.under hSA1).in_.range h) (items_one xs) (by have := HN.out; omega) (by decide) ?_
        intro Ax cx w3dEX m9 o9
        rw [Nat.zero_add, List.nil_append] at m9
        have Sw3dEX := hide m9.below
        have Ew3dEX := hide m9
        clear m9
        simp only [Act.put, List.setIfInBounds_toArray, List.set_cons_zero, List.set_cons_succ, Nat.zero_add]
        refine hK.out _ _ (Sw3dEX.out) (fun hSA2 => ?_)
        clear hK K
        refine wpAnyH_ready (rs := [4]) (by kernel_rfl) (by simp) ?_
        refine AllReadyH.cons rfl (fun K hK => ?_) AllReadyH.nil
        have hmk := mkBs1_run w3dEX b FH.out
        go_simp
        clear hmk
        obtain ⟨w3dEXB, hz⟩ : ∃ z, z = w3dEX.alloc (.cells b.cells.toArray 40) := ⟨_, rfl⟩
        rw [← hz]
        obtain ⟨q, hq⟩ : ∃ q, q = w3dEX.heap.size := ⟨_, rfl⟩
        rw [← hq]
        have b9 : Below w3dEX.heap.size w3dEX w3dEXB := by rw [hz]; exact below_alloc (Below.refl _ _) _
        have Sw3dEXB := hide (Below.then_ hSA2 b9)
        have Ew3dEXB := hide (Ew3dEX.out.keep b9)
        have Nw3dEXB := hide (show w3dEXB.rangeAt q 0 b.cells by rw [hz, hq]; exact (Blk.new w3dEX 40 b.cells).whole)
        clear hz hq b9
        refine hK.out _ _ (Sw3dEXB.out) (fun hSA3 => ?_)
        clear hK K
        refine wpAnyH_ready (rs := [5]) (by kernel_rfl) (by simp) ?_
        refine AllReadyH.cons rfl (fun K hK => ?_) AllReadyH.nil
        refine step_rows rfl 18 rfl _ _ 26 rfl 40 69 104 Try.underlying26 blk_infoR (by decide) w3 (.slice Ax n cx) n (xs.flatMap BlkV.cells) (by rfl) Ew3dEXB.out (some ⟨q, 0, none⟩) 1 1 b.cells (by rfl) (by rw [BlkV.cells_len FH.out]) (fun _ => ⟨q, 0, rfl, Nw3dEXB.out⟩) (BlkV.one b) (by have := HN.out; omega) (by decide) ?_
        intro Ay cy w3dEXBZ m9 _
        have Sw3dEXBZ := hide m9.below
        have Ew3dEXBZ := hide m9
        clear m9
        simp only [Act.put, List.setIfInBounds_toArray, List.set_cons_zero, List.set_cons_succ]
        refine hK.out _ _ (Sw3dEXBZ.out) (fun hSA4 => ?_)
        clear hK K
        (refine wpAnyH_take (i := 6) (oi := ⟨some 6, .assign (.tmp 18), 26, "ref.go:24", #[⟨5, .data⟩, ⟨5, .chain⟩, ⟨0, .phase⟩, ⟨1, .phase⟩, ⟨2, .phase⟩, ⟨3, .phase⟩, ⟨4, .phase⟩, ⟨5, .phase⟩], none⟩) (v := ?_) rfl (by kernel_rfl) (by kernel_rfl) (by kernel_rfl) (fun _ _ _ h => h) (Or.inl ⟨by rfl, fun w' hSw => ?_⟩) hSA4 ?_; rotate_left; focus (go_simp; try with_reducible rfl))
        simp only [Act.put, List.setIfInBounds_toArray, List.set_cons_zero, List.set_cons_succ]
        refine wpAnyH_done (by kernel_rfl) ?_ _
        obtain ⟨wz, hwz⟩ : ∃ z, z = w3dEXBZ := ⟨_, rfl⟩
        have EZ := hide Ew3dEXBZ.out
        rw [← hwz] at EZ ⊢
        clear hwz
        have LZ := hide (LRow.of_mine (ys := xs ++ [b]) (Nat.le_trans HLW.out B3.out.size) (by rw [List.flatMap_append]; simpa using EZ.out) (by rw [List.length_append, HXN.out]; rfl) (fun x hx => by
          rcases List.mem_append.1 hx with h | h
          · exact ⟨X3.out.keepB h, X3.out.good x h⟩
          · rw [List.mem_singleton.1 h]; exact ⟨F3.out, HG.out⟩))
        obtain ⟨Ay2, cy2, hAy, hcy, _, hA9⟩ := EZ.out.rows (by decide)
        injection hAy with e1 _ e3
        subst e1; subst e3
        obtain ⟨gy, hgy, _, _⟩ := hA9 (by omega)
        subst hgy
        by_cases h8 : n = 8
        · subst h8
          have HTL := hide (show (xs ++ [b]).tail.map BlkV.d = (addD (xs.map BlkV.d) b.d).1 by
            have hne : xs.map BlkV.d ≠ [] := by
              rw [Ne, List.map_eq_nil_iff]; rintro rfl; have := HXN.out; simp at this
            rw [HA.out, if_pos rfl, List.map_tail, List.map_append, List.tail_append_of_ne_nil hne]; rfl)
          have hsl := sliceB_run gy 9 cy (by decide) hcy (by omega)
          go_wp2_with fail
          go_ret2
          exact ⟨some ⟨gy, 69, none⟩, 8, cy - 1, (xs ++ [b]).tail, by rw [HA.out]; rfl, LZ.out.tail, HTL.out, Below.then_ B3.out EZ.out.below⟩
        · have i9 : ¬ ((n : Int) + 1 > 8) := by have := HN.out; omega
          go_wp2_with fail
          go_ret2
          exact ⟨some ⟨gy, 0, none⟩, n + 1, cy, xs ++ [b], by rw [HA.out]; rfl, LZ.out, by rw [HA.out, if_neg h8, List.map_append]; rfl, Below.then_ B3.out EZ.out.below⟩
      · have hmk := mkBs1_run w3dE b FH.out
        go_simp
        clear hmk
        obtain ⟨w3dEB, hz⟩ : ∃ z, z = w3dE.alloc (.cells b.cells.toArray 40) := ⟨_, rfl⟩
        rw [← hz]
        obtain ⟨q, hq⟩ : ∃ q, q = w3dE.heap.size := ⟨_, rfl⟩
        rw [← hq]
        have b9 : Below w3dE.heap.size w3dE w3dEB := by rw [hz]; exact below_alloc (Below.refl _ _) _
        have Sw3dEB := hide (Below.then_ hSA1 b9)
        have Ew3dEB := hide (Ew3dE.out.keep b9)
        have Nw3dEB := hide (show w3dEB.rangeAt q 0 b.cells by rw [hz, hq]; exact (Blk.new w3dE 40 b.cells).whole)
        have PQ := hide (show q ≠ p by rw [hq]; have := (Ew3dE.out.block p rfl).2; omega)
        clear hz hq b9
        refine hK.out _ _ (Sw3dEB.out) (fun hSA2 => ?_)
        clear hK K
        refine wpAnyH_ready (rs := [2]) (by kernel_rfl) (by simp) ?_
        refine AllReadyH.cons rfl (fun K hK => ?_) AllReadyH.nil
        refine step_rows rfl 15 rfl _ _ 26 rfl 40 69 104 Try.underlying26 blk_infoR (by decide) w3 (.slice (some ⟨p, 0, none⟩) 0 0) 0 [] (by rfl) Ew3dEB.out A n c (xs.flatMap BlkV.cells) (by rfl) (by rw [items_len _ HH.out, HXN.out]) (fun h => (X3.out.under hSA2).in_.range h) (items_one xs) (by have := HN.out; omega) (by decide) ?_
        intro Ax cx w3dEBX m9 o9
        rw [Nat.zero_add, List.nil_append] at m9
        have Sw3dEBX := hide m9.below
        have Ew3dEBX := hide m9
        have Nw3dEBX := hide (show w3dEBX.rangeAt q 0 b.cells from range_only Nw3dEB.out o9 (fun e => PQ.out (by injection e with e; exact e.symm)))
        clear m9
        simp only [Act.put, List.setIfInBounds_toArray, List.set_cons_zero, List.set_cons_succ, Nat.zero_add]
        refine hK.out _ _ (Sw3dEBX.out) (fun hSA3 => ?_)
        clear hK K
        refine wpAnyH_ready (rs := [5]) (by kernel_rfl) (by simp) ?_
        refine AllReadyH.cons rfl (fun K hK => ?_) AllReadyH.nil
        refine step_rows rfl 18 rfl _ _ 26 rfl 40 69 104 Try.underlying26 blk_infoR (by decide) w3 (.slice Ax n cx) n (xs.flatMap BlkV.cells) (by rfl) Ew3dEBX.out (some ⟨q, 0, none⟩) 1 1 b.cells (by rfl) (by rw [BlkV.cells_len FH.out]) (fun _ => ⟨q, 0, rfl, Nw3dEBX.out⟩) (BlkV.one b) (by have := HN.out; omega) (by decide) ?_
        intro Ay cy w3dEBXZ m9 _
        have Sw3dEBXZ := hide m9.below
        have Ew3dEBXZ := hide m9
        clear m9
        simp only [Act.put, List.setIfInBounds_toArray, List.set_cons_zero, List.set_cons_succ]
        refine hK.out _ _ (Sw3dEBXZ.out) (fun hSA4 => ?_)
        clear hK K
        (refine wpAnyH_take (i := 6) (oi := ⟨some 6, .assign (.tmp 18), 26, "ref.go:24", #[⟨5, .data⟩, ⟨5, .chain⟩, ⟨0, .phase⟩, ⟨1, .phase⟩, ⟨2, .phase⟩, ⟨3, .phase⟩, ⟨4, .phase⟩, ⟨5, .phase⟩], none⟩) (v := ?_) rfl (by kernel_rfl) (by kernel_rfl) (by kernel_rfl) (fun _ _ _ h => h) (Or.inl ⟨by rfl, fun w' hSw => ?_⟩) hSA4 ?_; rotate_left; focus (go_simp; try with_reducible rfl))
        simp only [Act.put, List.setIfInBounds_toArray, List.set_cons_zero, List.set_cons_succ]
        refine wpAnyH_done (by kernel_rfl) ?_ _
        obtain ⟨wz, hwz⟩ : ∃ z, z = w3dEBXZ := ⟨_, rfl⟩
        have EZ := hide Ew3dEBXZ.out
        rw [← hwz] at EZ ⊢
        clear hwz
        have LZ := hide (LRow.of_mine (ys := xs ++ [b]) (Nat.le_trans HLW.out B3.out.size) (by rw [List.flatMap_append]; simpa using EZ.out) (by rw [List.length_append, HXN.out]; rfl) (fun x hx => by
          rcases List.mem_append.1 hx with h | h
          · exact ⟨X3.out.keepB h, X3.out.good x h⟩
          · rw [List.mem_singleton.1 h]; exact ⟨F3.out, HG.out⟩))
        obtain ⟨Ay2, cy2, hAy, hcy, _, hA9⟩ := EZ.out.rows (by decide)
        injection hAy with e1 _ e3
        subst e1; subst e3
        obtain ⟨gy, hgy, _, _⟩ := hA9 (by omega)
        subst hgy
        by_cases h8 : n = 8
        · subst h8
          have HTL := hide (show (xs ++ [b]).tail.map BlkV.d = (addD (xs.map BlkV.d) b.d).1 by
            have hne : xs.map BlkV.d ≠ [] := by
              rw [Ne, List.map_eq_nil_iff]; rintro rfl; have := HXN.out; simp at this
            rw [HA.out, if_pos rfl, List.map_tail, List.map_append, List.tail_append_of_ne_nil hne]; rfl)
          have hsl := sliceB_run gy 9 cy (by decide) hcy (by omega)
          go_wp2_with fail
          go_ret2
          exact ⟨some ⟨gy, 69, none⟩, 8, cy - 1, (xs ++ [b]).tail, by rw [HA.out]; rfl, LZ.out.tail, HTL.out, Below.then_ B3.out EZ.out.below⟩
        · have i9 : ¬ ((n : Int) + 1 > 8) := by have := HN.out; omega
          go_wp2_with fail
          go_ret2
          exact ⟨some ⟨gy, 0, none⟩, n + 1, cy, xs ++ [b], by rw [HA.out]; rfl, LZ.out, by rw [HA.out, if_neg h8, List.map_append]; rfl, Below.then_ B3.out EZ.out.below⟩
    · have hmk := mkBs1_run w3d b FH.out
      go_simp
      clear hmk
      obtain ⟨w3dB, hz⟩ : ∃ z, z = w3d.alloc (.cells b.cells.toArray 40) := ⟨_, rfl⟩
      rw [← hz]
      obtain ⟨q, hq⟩ : ∃ q, q = w3d.heap.size := ⟨_, rfl⟩
      rw [← hq]
      have b9 : Below w3d.heap.size w3d w3dB := by rw [hz]; exact below_alloc (Below.refl _ _) _
      have Sw3dB := hide (Below.then_ hSA0 b9)
      have Nw3dB := hide (show w3dB.rangeAt q 0 b.cells by rw [hz, hq]; exact (Blk.new w3d 40 b.cells).whole)
      clear hz hq b9
      refine hK.out _ _ (Sw3dB.out) (fun hSA1 => ?_)
      clear hK K
      refine wpAnyH_ready (rs := [0]) (by kernel_rfl) (by simp) ?_
      refine AllReadyH.cons rfl (fun K hK => ?_) AllReadyH.nil
      go_simp
      obtain ⟨w3dBE, hz⟩ : ∃ z, z = w3dB.alloc (.cells #[] 40) := ⟨_, rfl⟩
      rw [← hz]
      obtain ⟨p, hp⟩ : ∃ p, p = w3dB.heap.size := ⟨_, rfl⟩
      rw [← hp]
      have b9 : Below w3dB.heap.size w3dB w3dBE := by rw [hz]; exact below_alloc (Below.refl _ _) _
      have Sw3dBE := hide (Below.then_ hSA1 b9)
      have Nw3dBE := hide (range_under Nw3dB.out b9)
      have Ew3dBE := hide (show MineR 40 69 w3 w3dBE (.slice (some ⟨p, 0, none⟩) 0 0) 0 [] by rw [hz, hp]; exact (MineR.empty [] rfl).older hSA1)
      have PQ := hide (show q ≠ p by rw [hp]; have := World.block_lt_of_cell? w3dB _ (Nw3dB.out 0 _ (by rw [BlkV.cells, head_at FH.out]; rfl)); have h9 : q < w3dB.heap.size := this; omega)
      clear hz hp b9
      refine hK.out _ _ (Sw3dBE.out) (fun hSA2 => ?_)
      clear hK K
      refine wpAnyH_ready (rs := [2]) (by kernel_rfl) (by simp) ?_
      refine AllReadyH.cons rfl (fun K hK => ?_) AllReadyH.nil
      refine step_rows rfl 15 rfl _ _ 26 rfl 40 69 104 Try.underlying26 blk_infoR (by decide) w3 (.slice (some ⟨p, 0, none⟩) 0 0) 0 [] (by rfl) Ew3dBE.out A n c (xs.flatMap BlkV.cells) (by rfl) (by rw [items_len _ HH.out, HXN.out]) (fun h => (X3.out.under hSA2).in_.range h) (items_one xs) (by have := HN.out; omega) (by decide) ?_
      intro Ax cx w3dBEX m9 o9
      rw [Nat.zero_add, List.nil_append] at m9
      have Sw3dBEX := hide m9.below
      have Ew3dBEX := hide m9
      have Nw3dBEX := hide (show w3dBEX.rangeAt q 0 b.cells from range_only Nw3dBE.out o9 (fun e => PQ.out (by injection e with e; exact e.symm)))
      clear m9
      simp only [Act.put, List.setIfInBounds_toArray, List.set_cons_zero, List.set_cons_succ, Nat.zero_add]
      refine hK.out _ _ (Sw3dBEX.out) (fun hSA3 => ?_)
      clear hK K
      refine wpAnyH_ready (rs := [5]) (by kernel_rfl) (by simp) ?_
      refine AllReadyH.cons rfl (fun K hK => ?_) AllReadyH.nil
      refine step_rows rfl 18 rfl _ _ 26 rfl 40 69 104 Try.underlying26 blk_infoR (by decide) w3 (.slice Ax n cx) n (xs.flatMap BlkV.cells) (by rfl) Ew3dBEX.out (some ⟨q, 0, none⟩) 1 1 b.cells (by rfl) (by rw [BlkV.cells_len FH.out]) (fun _ => ⟨q, 0, rfl, Nw3dBEX.out⟩) (BlkV.one b) (by have := HN.out; omega) (by decide) ?_
      intro Ay cy w3dBEXZ m9 _
      have Sw3dBEXZ := hide m9.below
      have Ew3dBEXZ := hide m9
      clear m9
      simp only [Act.put, List.setIfInBounds_toArray, List.set_cons_zero, List.set_cons_succ]
      refine hK.out _ _ (Sw3dBEXZ.out) (fun hSA4 => ?_)
      clear hK K
      (refine wpAnyH_take (i := 6) (oi := ⟨some 6, .assign (.tmp 18), 26, "ref.go:24", #[⟨5, .data⟩, ⟨5, .chain⟩, ⟨0, .phase⟩, ⟨1, .phase⟩, ⟨2, .phase⟩, ⟨3, .phase⟩, ⟨4, .phase⟩, ⟨5, .phase⟩], none⟩) (v := ?_) rfl (by kernel_rfl) (by kernel_rfl) (by kernel_rfl) (fun _ _ _ h => h) (Or.inl ⟨by rfl, fun w' hSw => ?_⟩) hSA4 ?_; rotate_left; focus (go_simp; try with_reducible rfl))
      simp only [Act.put, List.setIfInBounds_toArray, List.set_cons_zero, List.set_cons_succ]
      refine wpAnyH_done (by kernel_rfl) ?_ _
      obtain ⟨wz, hwz⟩ : ∃ z, z = w3dBEXZ := ⟨_, rfl⟩
      have EZ := hide Ew3dBEXZ.out
      rw [← hwz] at EZ ⊢
      clear hwz
      have LZ := hide (LRow.of_mine (ys := xs ++ [b]) (Nat.le_trans HLW.out B3.out.size) (by rw [List.flatMap_append]; simpa using EZ.out) (by rw [List.length_append, HXN.out]; rfl) (fun x hx => by
        rcases List.mem_append.1 hx with h | h
        · exact ⟨X3.out.keepB h, X3.out.good x h⟩
        · rw [List.mem_singleton.1 h]; exact ⟨F3.out, HG.out⟩))
      obtain ⟨Ay2, cy2, hAy, hcy, _, hA9⟩ := EZ.out.rows (by decide)
      injection hAy with e1 _ e3
      subst e1; subst e3
      obtain ⟨gy, hgy, _, _⟩ := hA9 (by omega)
      subst hgy
      by_cases h8 : n = 8
      · subst h8
        have HTL := hide (show (xs ++ [b]).tail.map BlkV.d = (addD (xs.map BlkV.d) b.d).1 by
          have hne : xs.map BlkV.d ≠ [] := by
            rw [Ne, List.map_eq_nil_iff]; rintro rfl; have := HXN.out; simp at this
          rw [HA.out, if_pos rfl, List.map_tail, List.map_append, List.tail_append_of_ne_nil hne]; rfl)
        have hsl := sliceB_run gy 9 cy (by decide) hcy (by omega)
        go_wp2_with fail
        go_ret2
        exact ⟨some ⟨gy, 69, none⟩, 8, cy - 1, (xs ++ [b]).tail, by rw [HA.out]; rfl, LZ.out.tail, HTL.out, Below.then_ B3.out EZ.out.below⟩
      · have i9 : ¬ ((n : Int) + 1 > 8) := by have := HN.out; omega
        go_wp2_with fail
        go_ret2
        exact ⟨some ⟨gy, 0, none⟩, n + 1, cy, xs ++ [b], by rw [HA.out]; rfl, LZ.out, by rw [HA.out, if_neg h8, List.map_append]; rfl, Below.then_ B3.out EZ.out.below⟩
end Go.Proofs.Ytbpmcnfmgaolnaa
/-
  Waiting: what the law's rounds are made of.
-/
namespace Go.Proofs.Ytbpmcnfmgaolnaa
open Go.RowKit

/-- A struct of two parts, built of both. -/
theorem run_build01 {P : Program} (t : TypeId) (f0 f1 : Field) (k n : Nat) (hu : P.underlying t = some (.struct #[f0, f1])) (ho0 : f0.offset = 0) (ho1 : f1.offset = k)
    (hs0 : (P.info? f0.type).map (·.size) = some k) (hs1 : (P.info? f1.type).map (·.size) = some n) (zs : List Value) (hz : (P.info? t).map (·.zero) = some (some (.agg zs.toArray))) (hzl : zs.length = k + n)
    (v0 v1 : Value) (vs0 vs1 : List Value) (h0 : v0.cells = vs0.toArray) (l0 : vs0.length = k) (h1 : v1.cells = vs1.toArray) (l1 : vs1.length = n) (w : World) :
    (Instr.build t #[(0, v0), (1, v1)]).run P w = .ok (.agg (vs0 ++ vs1).toArray) w := by
  obtain ⟨i, hi, hzz⟩ : ∃ i, P.info? t = some i ∧ i.zero = some (.agg zs.toArray) := by
    cases hq : P.info? t with
    | none => simp [hq] at hz
    | some i => exact ⟨i, rfl, by simpa [hq] using hz⟩
  unfold Instr.build
  have hm : (#[f0, f1].mapM fun f => do pure (f.offset, ← sizeOf f.type) : Sem (Array (Nat × Nat))).run P w = .ok #[(0, k), (k, n)] w := by
    simp [ho0, ho1, run_size hs0, run_size hs1]
  have hf : Instr.fill (fun j => #[(0, k), (k, n)][j]?) zs.toArray [(0, v0), (1, v1)] = some (vs0 ++ vs1).toArray := by
    rw [fill_one _ zs 0 v0 vs0 0 _ (by rw [l0]; rfl) h0 (by omega), fill_one _ (lay zs 0 vs0) 1 v1 vs1 k _ (by rw [l1]; rfl) h1 (by rw [lay_length]; omega), Instr.fill]
    congr 2
    rw [lay_eq _ _ _ (by rw [lay_length]; omega), lay_eq zs 0 vs0 (by omega), List.take_zero, List.nil_append, Nat.zero_add]
    have e1 : (vs0 ++ zs.drop vs0.length).take k = vs0 := by rw [List.take_append_of_le_length (by omega), List.take_of_length_le (by omega)]
    have e2 : (vs0 ++ zs.drop vs0.length).drop (k + vs1.length) = [] := List.drop_of_length_le (by rw [List.length_append, List.length_drop]; omega)
    rw [e1, e2, List.append_nil]
  simp only [Sem.run_bind, run_zero hi hzz, Result.andThen_ok, run_underlying hu, hm, show (Value.agg zs.toArray).cells = zs.toArray from rfl]
  simp only [hf]
  simp
theorem mkBlk_two (b : BlkV) (hf : b.head.Fine) (w : World) : (mkBlk #[(0, .agg b.head.cells.toArray), (1, .slice b.A b.n b.c)]).run Try.prog w = .ok (.agg b.cells.toArray) w := by
  have := run_build01 (P := Try.prog) 40 _ _ 68 1 Try.underlying40 rfl rfl (by kernel_rfl) (by kernel_rfl) zeroB.cells zeroBlk_info rfl (.agg b.head.cells.toArray) (.slice b.A b.n b.c) b.head.cells [.slice b.A b.n b.c] rfl (HeadD.cells_len hf) rfl rfl w
  rw [mkBlk, this]
  rfl
/-- A transaction that has a version alone. -/
def verT (v : Int) : TxV := ⟨v, none, 0, 0, [], none, 0, 0, [], 0⟩
theorem verT_fine {v : Int} (h : 0 ≤ v ∧ v ≤ 4294967295) (w : World) : (verT v).Fine w := ⟨h, ⟨Int.le_refl 0, by show (0 : Int) ≤ 4294967295; decide⟩, RowsIn.nil _ _ _ _ _, RowsIn.nil _ _ _ _ _, Nat.le_refl _, Nat.le_refl _⟩
theorem verT_small (v : Int) : (verT v).Small := ⟨Nat.zero_le _, Nat.zero_le _, fun _ h => absurd h (by simp [verT]), fun _ h => absurd h (by simp [verT])⟩
theorem mkTx_ver (v : Int) (w : World) : (mkTx #[(0, .int .u32 v)]).run Try.prog w = .ok (.agg (verT v).cells.toArray) w := by kernel_rfl
/-- A block of one such. -/
def oneB (h : HeadD) (g : Nat) (v : Int) : BlkV := ⟨h, some ⟨g, 0, none⟩, 1, 1, [verT v]⟩
theorem oneB_fine {h : HeadD} (hf : h.Fine) {v : Int} (hv : 0 ≤ v ∧ v ≤ 4294967295) {w : World} {g : Nat} (hb : Blk w g 37 (verT v).cells) : (oneB h g v).Fine w :=
  ⟨hf, ⟨rfl, fun a ha => by rw [List.mem_singleton.1 ha]; exact verT_fine hv w, fun _ => ⟨g, 0, rfl, fun i a ha => by
    rcases i with _ | i
    · obtain rfl : verT v = a := by simpa [oneB] using ha
      rw [show 0 + 0 * 4 = 0 by omega]; exact hb.whole
    · simp [oneB] at ha⟩⟩, Nat.le_refl _⟩
theorem oneB_keep {h : HeadD} (hf : h.Fine) {v : Int} (hv : 0 ≤ v ∧ v ≤ 4294967295) {w : World} {g : Nat} (hb : Blk w g 37 (verT v).cells) {F : Nat → Prop} (hg : ¬ F g) : KeepB w (oneB h g v) F := fun _ ho => oneB_fine hf hv (ho.blk hb hg)
theorem oneB_small (h : HeadD) (g : Nat) (v : Int) : (oneB h g v).Small := ⟨by show 1 ≤ 1000; decide, fun t ht => by rw [List.mem_singleton.1 ht]; exact verT_small v⟩
theorem oneB_good {h : HeadD} (hf : h.Fine) {v : Int} (hv : 0 ≤ v ∧ v ≤ 4294967295) (g : Nat) : (oneB h g v).Good := by
  have hl : (verT v).d.bytes.length ≤ 100 := by
    show (dig v.toNat 4 ++ cnt 0 ++ [] ++ cnt 0 ++ [] ++ dig 0 4).length ≤ 100
    simp [dig_length]
    decide
  refine ⟨oneB_small h g v, ⟨hf, by show 1 ≤ 100; decide, fun t ht => ?_⟩, ?_⟩
  · obtain rfl : t = (verT v).d := by simpa [BlkV.d, oneB] using ht
    exact ⟨hv, by show (0 : Int) ≤ 0 ∧ (0 : Int) ≤ 4294967295; decide, fun _ h => absurd h (by simp [verT, TxV.d]), fun _ h => absurd h (by simp [verT, TxV.d]), Nat.zero_le _, Nat.zero_le _⟩
  · show (h.bytes ++ cnt 1 ++ ([(verT v).d].flatMap TxD.bytes)).length ≤ 100000
    have h1 : (cnt 1).length ≤ 10 := by decide
    simp only [List.length_append, HeadD.bytes_len hf, List.flatMap_cons, List.flatMap_nil, List.append_nil]
    omega
/-! ### What is done -/
structure WActV where
  kind : Int
  nonce : Int
  prev : Int
def WActV.cells (a : WActV) : List Value := [.int .i64 a.kind, .int .u32 a.nonce, .int .u8 a.prev]
structure WActV.Fine (a : WActV) : Prop where
  kind : -9223372036854775808 ≤ a.kind ∧ a.kind ≤ 9223372036854775807
  nonce : 0 ≤ a.nonce ∧ a.nonce ≤ 4294967295
  prev : 0 ≤ a.prev ∧ a.prev ≤ 255
abbrev WActsIn (w : World) (A : Option Addr) (n : Nat) (xs : List WActV) : Prop := RowsIn WActV.cells 3 (fun _ a => a.Fine) w A n xs
theorem WActsIn.below' {w w' : World} {A : Option Addr} {n : Nat} {xs : List WActV} (h : WActsIn w A n xs) (hb : Below w.heap.size w w') : WActsIn w' A n xs := h.below hb fun _ h => h
theorem wact_size : (Try.prog.info? 29).map (·.size) = some 3 := by kernel_rfl
theorem wact_one (a : WActV) : ∀ v ∈ a.cells, v.oneCell' = true := by
  intro v hv
  simp only [WActV.cells, List.mem_cons, List.mem_nil_iff, or_false] at hv
  rcases hv with rfl | rfl | rfl <;> rfl
theorem wact_zero : (Try.prog.info? 29).map (·.zero) = some (some (.agg ([.int .i64 0, .int .u32 0, .int .u8 0] : List Value).toArray)) := by kernel_rfl
end Go.Proofs.Ytbpmcnfmgaolnaa
/-
  WaitingApart: the plain law; the law's block.
-/
namespace Go.Proofs.Ytbpmcnfmgaolnaa
open Go.RowKit

/-! ### The plain law -/
def nn (n : Int) (k : Nat) : Int := (n + (k : Int)) % 4294967296
theorem nn_range (n : Int) (k : Nat) : 0 ≤ nn n k ∧ nn n k ≤ 4294967295 := by unfold nn; omega
theorem nn_zero {n : Int} (h : 0 ≤ n ∧ n ≤ 4294967295) : nn n 0 = n := by unfold nn; omega
def idN (n : Int) (k : Nat) : List Int := sha2 (headN (nn n k)).bytes
/-- No two of the nine names are alike, as far as was looked. -/
def Apart9 (n : Int) (a : Nat) : Prop := ∀ k m : Nat, k < a → m < k → idN n k ≠ idN n m
theorem Apart9.ne {n : Int} (h : Apart9 n 9) {i j : Nat} (hi : i ≤ 8) (hj : j ≤ 8) (hij : i ≠ j) : idN n i ≠ idN n j := by
  rcases Nat.lt_or_gt_of_ne hij with h1 | h1
  · exact fun e => h j i (by omega) h1 e.symm
  · exact h i j (by omega) h1
def bareN (n : Int) (k : Nat) : BlkD := bareD (headN (nn n k))
theorem bareN_id (n : Int) (k : Nat) : sha2 (bareN n k).head.bytes = idN n k := rfl
/-- The first, and j behind it. -/
def rowN (b : BlkD) (n : Int) (j : Nat) : List BlkD := b :: (List.range j).map fun i => bareN n (i + 1)
theorem rowN_len (b : BlkD) (n : Int) (j : Nat) : (rowN b n j).length = j + 1 := by simp [rowN]
theorem rowN_tail (b : BlkD) (n : Int) (j : Nat) : (rowN b n j).tail = (List.range j).map fun i => bareN n (i + 1) := rfl
theorem rowN_next (b : BlkD) (n : Int) (j : Nat) : rowN b n j ++ [bareN n (j + 1)] = rowN b n (j + 1) := by
  simp [rowN, List.range_succ]
theorem tail_has {n : Int} (h : Apart9 n 9) {j k : Nat} (hk : k ≤ 8) (hj : j ≤ 8) (hne : k = 0 ∨ j < k) : hasD ((List.range j).map fun i => bareN n (i + 1)) (idN n k) = false := by
  cases h9 : hasD ((List.range j).map fun i => bareN n (i + 1)) (idN n k) with
  | false => rfl
  | true =>
    exfalso
    rw [hasD_iff, List.map_map, List.mem_map] at h9
    obtain ⟨i, hi, e⟩ := h9
    rw [List.mem_range] at hi
    exact h.ne (i := i + 1) (j := k) (by omega) hk (by omega) e
theorem rowN_has {b : BlkD} {n : Int} (hb : sha2 b.head.bytes = idN n 0) (h : Apart9 n 9) {j k : Nat} (hk : k ≤ 8) (hj : j < k) : hasD (rowN b n j) (idN n k) = false := by
  have h1 := tail_has h hk (by omega : j ≤ 8) (.inr hj)
  have h2 : ¬ idN n 0 = idN n k := h.ne (by omega) hk (by omega)
  unfold hasD at h1 ⊢
  rw [rowN, List.any_cons, h1, Bool.or_false, hb]
  simpa using h2
theorem add_row {b : BlkD} {n : Int} (hb : sha2 b.head.bytes = idN n 0) (h : Apart9 n 9) {j : Nat} (hj : j < 7) : addD (rowN b n j) (bareN n (j + 1)) = (rowN b n (j + 1), true) := by
  rw [addD, bareN_id, rowN_has hb h (by omega) (Nat.lt_succ_self j), rowN_len, if_neg (by simp), if_neg (by omega), rowN_next]
theorem add_last {b : BlkD} {n : Int} (hb : sha2 b.head.bytes = idN n 0) (h : Apart9 n 9) : addD (rowN b n 7) (bareN n 8) = ((rowN b n 8).tail, true) := by
  rw [addD, bareN_id, rowN_has hb h (by omega) (by omega), rowN_len, if_neg (by simp), if_pos (by omega), ← rowN_next]
  rfl
/-- Behind j of the eight. -/
def ringN (b : BlkD) (n : Int) (j : Nat) : List BlkD := if j = 8 then (rowN b n 8).tail else rowN b n j
theorem ringN_step {b : BlkD} {n : Int} (hb : sha2 b.head.bytes = idN n 0) (h : Apart9 n 9) {j : Nat} (hj : j < 8) : (addD (ringN b n j) (bareN n (j + 1))).1 = ringN b n (j + 1) := by
  unfold ringN
  rw [if_neg (by omega)]
  by_cases h7 : j = 7
  · subst h7
    rw [add_last hb h, if_pos rfl]
  · rw [add_row hb h (by omega), if_neg (by omega)]
theorem ringN_gone {b : BlkD} {n : Int} (h : Apart9 n 9) : hasD (ringN b n 8) (idN n 0) = false := by
  rw [ringN, if_pos rfl, rowN_tail]
  exact tail_has h (by omega) (Nat.le_refl _) (.inl rfl)
theorem ringN_again {b c : BlkD} {n : Int} (h : Apart9 n 9) (hc : sha2 c.head.bytes = idN n 0) : (addD (ringN b n 8) c).2 = true ∧ (addD (ringN b n 8) c).1.length = 8 := by
  rw [addD, hc, ringN_gone h, if_neg (by simp)]
  refine ⟨rfl, ?_⟩
  simp [ringN, rowN_tail]
theorem add_first (b : BlkD) (n : Int) : addD [] b = (rowN b n 0, true) := by
  rw [addD]; rfl
theorem add_same {b c : BlkD} {n : Int} (h : c.head = b.head) : addD (rowN b n 0) c = (rowN b n 0, false) := by
  rw [addD, if_pos]
  rw [hasD_iff, h]
  simp [rowN]
/-! ### The block -/
def apI (gu : Nat) (u : Int) : InV := ⟨zeroR, some ⟨gu, 0, none⟩, 2, 2, [u, 2], 0⟩
def apO (gl : Nat) : OutV := ⟨0, some ⟨gl, 0, none⟩, 1, 1, [3]⟩
def apT (gu gi gl go : Nat) (u : Int) : TxV := ⟨0, some ⟨gi, 0, none⟩, 1, 1, [apI gu u], some ⟨go, 0, none⟩, 1, 1, [apO gl], 0⟩
def apB (h : HeadD) (gu gi gl go gt : Nat) (u : Int) : BlkV := ⟨h, some ⟨gt, 0, none⟩, 1, 1, [apT gu gi gl go u]⟩
def apD (h : HeadD) (u : Int) : BlkD := ⟨h, [⟨0, [⟨zeroR, [u, 2], 0⟩], [⟨0, [3]⟩], 0⟩]⟩
theorem apB_d (h : HeadD) (gu gi gl go gt : Nat) (u : Int) : (apB h gu gi gl go gt u).d = apD h u := rfl
structure ApAt (w : World) (gu gi gl go gt : Nat) (u : Int) : Prop where
  un : Blk w gu 5 (bcs [u, 2])
  i : Blk w gi 60 (apI gu u).cells
  l : Blk w gl 5 (bcs [3])
  o : Blk w go 62 (apO gl).cells
  t : Blk w gt 37 (apT gu gi gl go u).cells
theorem ApAt.under {w w' : World} {gu gi gl go gt : Nat} {u : Int} (h : ApAt w gu gi gl go gt u) (hb : Below w.heap.size w w') : ApAt w' gu gi gl go gt u :=
  ⟨h.un.under hb, h.i.under hb, h.l.under hb, h.o.under hb, h.t.under hb⟩
theorem ApAt.only {w w' : World} {gu gi gl go gt : Nat} {u : Int} {F : Nat → Prop} (h : ApAt w gu gi gl go gt u) (ho : Only F w w') (h1 : ¬ F gu) (h2 : ¬ F gi) (h3 : ¬ F gl) (h4 : ¬ F go) (h5 : ¬ F gt) : ApAt w' gu gi gl go gt u :=
  ⟨ho.blk h.un h1, ho.blk h.i h2, ho.blk h.l h3, ho.blk h.o h4, ho.blk h.t h5⟩
theorem byt_u {u : Int} (h : 0 ≤ u ∧ u ≤ 255) : Byt [u, 2] := by
  intro x hx
  simp only [List.mem_cons, List.mem_nil_iff, or_false] at hx
  rcases hx with rfl | rfl
  · exact h
  · decide
theorem byt_3 : Byt [3] := by
  intro x hx
  rw [List.mem_singleton.1 hx]; decide
theorem ApAt.fine {w : World} {h : HeadD} {gu gi gl go gt : Nat} {u : Int} (ha : ApAt w gu gi gl go gt u) (hh : h.Fine) (hu : 0 ≤ u ∧ u ≤ 255) : (apB h gu gi gl go gt u).Fine w := by
  refine ⟨hh, ⟨rfl, fun a h9 => ?_, fun _ => ⟨gt, 0, rfl, fun j a h9 => ?_⟩⟩, Nat.le_refl _⟩
  · obtain rfl : a = apT gu gi gl go u := by simpa [apB] using h9
    refine ⟨(by decide : (0 : Int) ≤ 0 ∧ (0 : Int) ≤ 4294967295), (by decide : (0 : Int) ≤ 0 ∧ (0 : Int) ≤ 4294967295), ⟨rfl, fun a h9 => ?_, fun _ => ⟨gi, 0, rfl, fun j a h9 => ?_⟩⟩, ⟨rfl, fun a h9 => ?_, fun _ => ⟨go, 0, rfl, fun j a h9 => ?_⟩⟩, Nat.le_refl _, Nat.le_refl _⟩
    · obtain rfl : a = apI gu u := by simpa [apT] using h9
      exact ⟨zeroR_fine, Bys.of_blk ha.un (byt_u hu), Nat.le_refl _, (by decide : (0 : Int) ≤ 0 ∧ (0 : Int) ≤ 4294967295)⟩
    · rcases j with _ | j
      · obtain rfl : apI gu u = a := by simpa [apT] using h9
        simpa using ha.i.whole
      · simp [apT] at h9
    · obtain rfl : a = apO gl := by simpa [apT] using h9
      exact ⟨(by decide : (-9223372036854775808 : Int) ≤ 0 ∧ (0 : Int) ≤ 9223372036854775807), Bys.of_blk ha.l byt_3, Nat.le_refl _, fun ad e j _ => by
        injection e with e
        subst e
        have := ha.l.frozen j
        simpa using this⟩
    · rcases j with _ | j
      · obtain rfl : apO gl = a := by simpa [apT] using h9
        simpa using ha.o.whole
      · simp [apT] at h9
  · rcases j with _ | j
    · obtain rfl : apT gu gi gl go u = a := by simpa [apB] using h9
      simpa using ha.t.whole
    · simp [apB] at h9
theorem apB_small (h : HeadD) (gu gi gl go gt : Nat) (u : Int) : (apB h gu gi gl go gt u).Small := ⟨by simp [apB], fun t ht => by
  obtain rfl : t = apT gu gi gl go u := by simpa [apB] using ht
  exact ⟨by simp [apT], by simp [apT], by simp [apT, apI], by simp [apT, apO]⟩⟩
theorem apD_ok {h : HeadD} (hh : h.Fine) (u : Int) : (apD h u).Ok := by
  refine ⟨hh, by simp [apD], fun t ht => ?_⟩
  obtain rfl := List.mem_singleton.1 ht
  refine ⟨(by decide : (0 : Int) ≤ 0 ∧ (0 : Int) ≤ 4294967295), (by decide : (0 : Int) ≤ 0 ∧ (0 : Int) ≤ 4294967295), fun a ha => ?_, fun a ha => ?_, by simp, by simp⟩
  · obtain rfl := List.mem_singleton.1 ha
    exact ⟨zeroR_fine, by simp, (by decide : (0 : Int) ≤ 0), (by decide : (0 : Int) ≤ 4294967295)⟩
  · obtain rfl := List.mem_singleton.1 ha
    exact ⟨(by decide : (-9223372036854775808 : Int) ≤ 0), (by decide : (0 : Int) ≤ 9223372036854775807), by simp⟩
theorem apB_good {h : HeadD} (hh : h.Fine) {u : Int} (_hu : 0 ≤ u ∧ u ≤ 255) (gu gi gl go gt : Nat) : (apB h gu gi gl go gt u).Good := by
  refine ⟨apB_small h gu gi gl go gt u, apD_ok hh u, ?_⟩
  show (h.bytes ++ cnt 1 ++ (apD h u).txs.flatMap TxD.bytes).length ≤ 100000
  have h1 : (cnt 1).length ≤ 10 := by decide
  have h2 : ((apD h u).txs.flatMap TxD.bytes).length ≤ 200 := by
    have e : (dig 0 4 ++ cnt 1 ++ (zeroR.bytes ++ (cnt 2 ++ [u, 2]) ++ dig 0 4) ++ cnt 1 ++ (dig (u64 0).toNat 8 ++ (cnt 1 ++ [3])) ++ dig 0 4).length ≤ 200 := by
      have z : zeroR.bytes.length ≤ 60 := by decide +kernel
      have c2 : (cnt 2).length ≤ 10 := by decide
      simp only [List.length_append, dig_length, List.length_cons, List.length_nil]
      omega
    simpa [apD, TxD.bytes, InD.bytes, OutD.bytes, txt] using e
  simp only [List.length_append, HeadD.bytes_len hh]
  omega
end Go.Proofs.Ytbpmcnfmgaolnaa
