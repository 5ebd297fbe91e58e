import Derived.Test.YtbpmcnfmgaolnaaPk8
import Derived.Test.YtbpmcnfmgaolnaaPk9
import Derived.Test.YtbpmcnfmgaolnaaPk4
/-
  The document: transactions, read.
-/
namespace Go.Proofs.Ytbpmcnfmgaolnaa
open Go.RowKit

def inOf (d : RefD) (A : Option Addr) (n c : Nat) (bs : List Int) (u : Int) : InV := ⟨d, A, n, c, bs, u⟩
theorem inOf_33 (d : RefD) (A : Option Addr) (n c : Nat) (bs : List Int) (u : Int) (hd : d.Fine) (A' : Option Addr) (n' c' : Nat) (bs' : List Int) : (inOf d A n c bs u).cells.set 33 (.slice A' n' c') = (inOf d A' n' c' bs' u).cells := by
  have h := RefD.cells_len hd
  simp only [InV.cells, inOf]
  rw [List.set_append_right _ _ (by omega), h]
  rfl
theorem inOf_34 (d : RefD) (A : Option Addr) (n c : Nat) (bs : List Int) (u : Int) (hd : d.Fine) (u' : Int) : (inOf d A n c bs u).cells.set 34 (.int .u32 u') = (inOf d A n c bs u').cells := by
  have h := RefD.cells_len hd
  simp only [InV.cells, inOf]
  rw [List.set_append_right _ _ (by omega), h]
  rfl
section
variable {P : Program}
theorem run_build1 (t : TypeId) (f0 f1 f2 : Field) (k n m : Nat) (hu : P.underlying t = some (.struct #[f0, f1, f2])) (ho0 : f0.offset = 0) (ho1 : f1.offset = k) (ho2 : f2.offset = k + n)
    (hs0 : (P.info? f0.type).map (·.size) = some k) (hs1 : (P.info? f1.type).map (·.size) = some n) (hs2 : (P.info? f2.type).map (·.size) = some m) (zs : List Value) (hz : (P.info? t).map (·.zero) = some (some (.agg zs.toArray))) (hzl : zs.length = k + n + m)
    (v0 : Value) (vs0 : List Value) (h0 : v0.cells = vs0.toArray) (l0 : vs0.length = k) (w : World) :
    (Instr.build t #[(0, v0)]).run P w = .ok (.agg (vs0 ++ zs.drop k).toArray) w := by
  obtain ⟨i, hi, hzz⟩ : ∃ i, P.info? t = some i ∧ i.zero = some (.agg zs.toArray) := by
    cases hq : P.info? t with
    | none => simp [hq] at hz
    | some i => exact ⟨i, rfl, by simpa [hq] using hz⟩
  unfold Instr.build
  have hm : (#[f0, f1, f2].mapM fun f => do pure (f.offset, ← sizeOf f.type) : Sem (Array (Nat × Nat))).run P w = .ok #[(0, k), (k, n), (k + n, m)] w := by
    simp [ho0, ho1, ho2, run_size hs0, run_size hs1, run_size hs2]
  have hf : Instr.fill (fun j => #[(0, k), (k, n), (k + n, m)][j]?) zs.toArray [(0, v0)] = some (vs0 ++ zs.drop k).toArray := by
    rw [fill_one _ zs 0 v0 vs0 0 _ (by rw [l0]; rfl) h0 (by omega)]
    rw [Instr.fill]
    congr 2
    rw [lay_eq zs 0 vs0 (by omega), l0]
    simp
  have hc : (Value.agg zs.toArray).cells = zs.toArray := rfl
  simp only [Sem.run_bind, run_zero hi hzz, Result.andThen_ok, run_underlying hu, hm, hc]
  simp only [hf]
  simp
end
theorem mkIn1_run (d : RefD) (hd : d.Fine) (w : World) : (mkIn #[(0, .agg d.cells.toArray)]).run Try.prog w = .ok (.agg (inOf d none 0 0 [] 0).cells.toArray) w := by
  have := run_build1 (P := Try.prog) 60 _ _ _ 33 1 1 Try.underlying60 rfl rfl rfl (by kernel_rfl) (by kernel_rfl) (by kernel_rfl) zeroI.cells zeroIn_info rfl (.agg d.cells.toArray) d.cells rfl (RefD.cells_len hd) w
  rw [mkIn, this]
  rfl
section
variable {P : Program}
theorem wpList_row {w : World} {ops : Array Oper} {rest : List Oper} {o : Oper} {a : Act} {Q : Exit → Act → World → Prop} (hgd : o.guard = none) (d : Nat) (hd : o.dst = some d) (s x : Operand) (t : TypeId)
    (ho : o.op = .call { callee := .builtin .append, args := #[s, x], argTypes := #[t, t] })
    (e : TypeId) (k by_ : Nat) (ht : P.underlying t = some (.slice e)) (hi : (P.info? e).map (fun i => (i.size, i.bytes, i.zero.map (fun z => z.cells.size))) = some (k, by_, some k)) (hk : 0 < k)
    (base : Nat) (v : Value) (n : Nat) (cs : List Value) (hs : a.eval s = v) (h : w.ownsRow base e k v n cs) (hbase : base ≤ w.heap.size)
    (b off m c : Nat) (news : List Value) (hx : a.eval x = .slice (some ⟨b, off, none⟩) m c) (hl : news.length = m * k) (hnews : w.rangeAt b off news) (h1 : ∀ u ∈ news, u.oneCell' = true)
    (hbytes : (n + m) * by_ ≤ 140737488355328) (hby : 0 < by_)
    (hK : ∀ A' c' w', w'.ownsRow base e k (.slice A' (n + m) c') (n + m) (cs ++ news) → n + m ≤ c' → (∀ g, (Value.slice A' (n + m) c').ownBlock = some g → v.ownBlock = some g ∨ w.heap.size ≤ g) → Only (fun i => v.ownBlock = some i) w w' → wpList P ops Q rest (a.put (some d) (.slice A' (n + m) c')) w') : wpList P ops Q (o :: rest) a w :=
  wpList_plain hgd fun K hK' => by
    have := step_row (P := P) (w := w) (ops := #[]) (o := o) (a := a) (K := K) (Q := Q) (E := True) hgd d hd s x t ho e k by_ ht hi hk base v n cs hs h hbase b off m c news hx hl hnews h1 hbytes hby (fun A' c' w' q1 q2 q3 q4 => hK' _ _ (hK A' c' w' q1 q2 q3 q4))
    rwa [if_pos (by simp [Region.wanted, hgd])] at this
end
attribute [local go_sem ↓] loadIn_fold loadRef_fold mkIn_fold mkIns_fold
set_option maxHeartbeats 4000000 in
set_option maxRecDepth 100000 in
theorem refTRead_any (w : World) (g h : Nat) (r : Rd) (hR : RdAt 128 w g h r) :
    Calls Try.prog 84 #[.pointer (some ⟨g, 0, none⟩)] w (TxPost 128 w g h r.tx.2 r.tx.1) := by
  have hgl := hR.lt.1
  have hhl := hR.lt.2
  have HGL := hide hgl
  have HHL := hide hhl
  have hR0 := hR.below ((Below.refl _ w).alloc (Nat.le_refl _) (.cells #[.int .u32 0, .slice none 0 0, .slice none 0 0, .int .u32 0] 37))
  have BZ := hide (Blk.new w 37 (txcells 0 none 0 0 none 0 0 0))
  have O0 := hide (Only.alloc0 (F := fun i => i = g) w (.cells #[.int .u32 0, .slice none 0 0, .slice none 0 0, .int .u32 0] 37))
  have hV := hide (fixed_u32 r (by obtain ⟨_, _, _, _, hB2, _⟩ := hR; exact hB2.2.1))
  clear hR
  go_enter Try.func84, Try.ntmps84
  go_wp2_with fail
  refine (reffixedof_any _ g h _ 4 hR0).mono ?_
  rintro e w1 ⟨rfl, hR1, o1⟩
  obtain ⟨V, r1, h1⟩ : ∃ V r1, r.fixed 4 = (V, r1) := ⟨_, _, rfl⟩
  rw [h1] at hR1 hV ⊢
  simp only at hR1 hV ⊢
  have hne := hide (show ¬ w.heap.size = g by omega)
  have hcV : IntKind.u32.wrap (V : Int) = (V : Int) := by have := hV.out; rw [IntKind.wrap_u32]; omega
  have B1 := hide ((o1.blk BZ.out hne.out).alloc (.cells (txcells V none 0 0 none 0 0 0).toArray 37))
  have O1 := hide ((O0.out.trans o1 (fun _ _ h => h)).alloc (.cells (txcells V none 0 0 none 0 0 0).toArray 37))
  have T1 := hide (Blk.new w1 37 (txcells V none 0 0 none 0 0 0))
  have hR2 := hide (hR1.below ((Below.refl _ w1).alloc (Nat.le_refl _) (.cells (txcells V none 0 0 none 0 0 0).toArray 37)))
  have hs1 := hide (show w.heap.size < w1.heap.size from (o1.blk BZ.out hne.out).lt)
  clear hR0 hR1 o1 BZ O0
  go_wp2_with fail
  obtain ⟨w2, hw2⟩ : ∃ w2, w2 = w1.alloc (.cells (txcells V none 0 0 none 0 0 0).toArray 37) := ⟨_, rfl⟩
  change Calls _ _ _ (w1.alloc (.cells (txcells V none 0 0 none 0 0 0).toArray 37)) _
  rw [← hw2] at B1 O1 T1 hR2 ⊢
  clear hw2
  refine (refcountof_any _ g h _ 200 hR2.out (by decide)).mono ?_
  rintro e w3 ⟨rfl, hR3, o3⟩
  have hN := count_most r1 200
  obtain ⟨N, r2, h2⟩ : ∃ N r2, r1.count 200 = (N, r2) := ⟨_, _, rfl⟩
  have e200 : (200 : Int).toNat = 200 := rfl
  rw [e200] at hR3 ⊢
  rw [h2] at hR3 hN ⊢
  simp only at hR3 hN ⊢
  have hcN : IntKind.i64.wrap (N : Int) = (N : Int) := by rw [IntKind.wrap_i64]; omega
  have hntv := hide (show ¬ w1.heap.size = g by have := HGL.out; have := hs1.out; omega)
  have hnrv := hide (show ¬ w.heap.size = g by have := HGL.out; omega)
  have T3 := hide (o3.blk T1.out hntv.out)
  have B3 := hide (o3.blk B1.out hnrv.out)
  have O3 := hide (O1.out.trans o3 (fun _ _ h => h))
  have hs3 := hide (show w1.heap.size < w3.heap.size from T3.out.lt)
  have hR30 := hide hR3
  clear hR2 o3 T1 B1 O1 e200 hR3
  go_wp2_with fail
  go_loopw [5] (fun i ws => ∃ (j : Nat) (xs : List InV) (iA : Option Addr) (iC : Nat), j ≤ N ∧ i = .int .i64 (j : Int) ∧ InsAt 128 w3 ws g h w1.heap.size V r2 j xs iA iC) (fun i _ => N - (intOf i).toNat)
  case atStart => exact ⟨0, [], none, 0, by omega, rfl, rfl, rfl, hR30.out, T3.out, Nat.le_refl _, World.ownsRow_nil _ _ _ _, (by simp), (by simp), Only.refl _ _⟩
  case round =>
    obtain ⟨j, xs, iA, iC, hj, rfl, hI⟩ := hrel
    have HI := hide hI
    by_cases hlt : j < N
    · obtain ⟨r3, hr3⟩ : ∃ r3, r3 = (Rd.rep Rd.inn j r2).2 := ⟨_, rfl⟩
      have hrd := hI.rd
      rw [← hr3] at hrd
      have HR3 := hide hr3
      have hj200 : j ≤ 200 := by omega
      have hj1 : (j : Int) < (N : Int) := by omega
      have hj0 : (j : Int) ≤ 200 := by omega
      have hIa := hide hI
      have hRc : RdAt 128 wr g h r3 := hrd
      have Ta := hide hIa.out.blk
      have hblk := hide (show ∀ q, (Value.slice iA j iC).ownBlock = some q → w3.heap.size ≤ q ∧ q < wr.heap.size from hIa.out.row.lt)
      have hgw := hide (show g < wr.heap.size from Nat.lt_of_lt_of_le (Nat.lt_trans HGL.out hs1.out) (Nat.le_trans (Nat.le_of_lt hs3.out) hIa.out.only.size))
      have hhw := hide (show h < wr.heap.size from Nat.lt_of_lt_of_le (Nat.lt_trans HHL.out hs1.out) (Nat.le_trans (Nat.le_of_lt hs3.out) hIa.out.only.size))
      clear hrd hr3 hI
      go_wp2_with fail
      refine (refRefRead_any _ g h _ hRc).mono ?_
      rintro e wb ⟨rfl, hfb, hRb, ob⟩
      have hmk := mkIn1_run r3.ref.1 hfb
      have HFB := hide hfb
      have KZ := hide (Blk.new wb 60 zeroI.cells)
      have lz : zeroI.cells.length = 35 := rfl
      have la : (inOf r3.ref.1 none 0 0 [] 0).cells.length = 35 := InV.cells_len hfb
      have hI := isIn
      have hgb : g < wb.heap.size := Nat.lt_of_lt_of_le hgw.out ob.size
      have hhb : h < wb.heap.size := Nat.lt_of_lt_of_le hhw.out ob.size
      have HGB := hide hgb
      have HHB := hide hhb
      have hwb := hide ob.size
      have hRb1 := hide (hRb.below ((Below.refl _ wb).alloc (Nat.le_refl _) (.cells zeroI.cells.toArray 60)))
      have Ob := hide (ob.alloc (.cells zeroI.cells.toArray 60))
      clear hRc hRb ob hgb hhb hfb
      go_wp2_with (first
        | (refine wpList_alloc_agg rfl 60 rfl zeroI.cells zeroIn_info ?_; simp only [Act.put, List.setIfInBounds_toArray, List.set_cons_zero, List.set_cons_succ])
        | (refine wpList_store_blk rfl 60 _ _ rfl wb.heap.size 0 60 zeroI.cells (inOf r3.ref.1 none 0 0 [] 0).cells (by rfl) (by rfl) KZ.out (by rw [lz, la]; decide) (by rw [hI, la]) (InV.one _) ?_; intro w5 o5 z5 b5; rw [lay_all zeroI.cells _ (by rw [lz, la])] at b5; simp only [Act.put]))
      have B5 := hide b5
      have O5 := hide (Ob.out.trans o5 (fun i hi e => by have h9 : i = wb.heap.size := e; have := hwb.out; omega))
      have hR5 := hRb1.out.keep o5 (fun e => by have h9 : g = wb.heap.size := e; have := HGB.out; omega) (fun e => by have h9 : h = wb.heap.size := e; have := HHB.out; omega)
      have hs5 := hide (show wb.heap.size < w5.heap.size from b5.lt)
      clear b5 o5 z5 KZ Ob hRb1
      refine (reftextof_any _ g h _ 2000 hR5 (by decide)).mono ?_
      rintro e wc ⟨Ac, nc, cc, rfl, hBc, hcc, hfc, hRc, oc⟩
      have Bc := hide (oc.blk B5.out (by have := HGB.out; omega))
      have Oc := hide (O5.out.trans oc (fun _ _ h => h))
      have y33 := InV.c33 Bc.out.whole HFB.out
      have f33 := Bc.out.frozen 33
      have B6 := hide (Bc.out.set_ 33 (.slice Ac nc cc))
      have o6 := Only.cell1 wc wb.heap.size 33 (.slice Ac nc cc)
      have hR6 := hRc.keep o6 (fun e => by have h9 : g = wb.heap.size := e; have := HGB.out; omega) (fun e => by have h9 : h = wb.heap.size := e; have := HHB.out; omega)
      have O6 := hide (Oc.out.trans o6 (fun i hi e => by have h9 : i = wb.heap.size := e; have := hwb.out; omega))
      obtain ⟨w6, hw6⟩ : ∃ w6, w6 = wc.setCell ⟨wb.heap.size, 33, none⟩ (.slice Ac nc cc) := ⟨_, rfl⟩
      rw [← hw6] at B6 o6 hR6 O6
      rw [inOf_33 _ _ _ _ _ _ HFB.out Ac nc cc (r3.ref.2.text 2000).1] at B6
      have hb56 := hide oc.size
      have HO6 := hide o6
      have HBc := hide hBc
      have Hcc := hide hcc
      have Hfc := hide hfc
      clear oc Oc B5 O5 hR5 hRc o6 hBc hcc hfc
      go_wp2_with fail
      rw [← hw6]
      clear hw6 y33 f33
      refine (reffixedof_any _ g h _ 4 hR6).mono ?_
      rintro e wd ⟨rfl, hRd, od⟩
      have hF4 := fixed_u32 (r3.ref.2.text 2000).2 (by obtain ⟨_, _, _, _, hB2, _⟩ := hR6; exact hB2.2.1)
      have hconv : IntKind.u32.wrap (((r3.ref.2.text 2000).2.fixed 4).1 : Int) = (((r3.ref.2.text 2000).2.fixed 4).1 : Int) := by rw [IntKind.wrap_u32]; omega
      have HF4 := hide hF4
      have Bd := hide (od.blk B6.out (by have := HGB.out; omega))
      have Od := hide (O6.out.trans od (fun _ _ h => h))
      have y34 := InV.c34 Bd.out.whole HFB.out
      have f34 := Bd.out.frozen 34
      have B7 := hide (Bd.out.set_ 34 (.int .u32 (((r3.ref.2.text 2000).2.fixed 4).1 : Int)))
      have o7 := Only.cell1 wd wb.heap.size 34 (.int .u32 (((r3.ref.2.text 2000).2.fixed 4).1 : Int))
      have hR7 := hRd.keep o7 (fun e => by have h9 : g = wb.heap.size := e; have := HGB.out; omega) (fun e => by have h9 : h = wb.heap.size := e; have := HHB.out; omega)
      have O7 := hide (Od.out.trans o7 (fun i hi e => by have h9 : i = wb.heap.size := e; have := hwb.out; omega))
      have P7 := hide ((HO6.out.mono (G := fun i => i = g ∨ i = wb.heap.size) (fun _ _ h => .inr h)).trans ((od.mono (G := fun i => i = g ∨ i = wb.heap.size) (fun _ _ h => .inl h)).trans o7 (fun _ _ h => .inr h)) (fun _ _ h => h))
      obtain ⟨w7, hw7⟩ : ∃ w7, w7 = wd.setCell ⟨wb.heap.size, 34, none⟩ (.int .u32 (((r3.ref.2.text 2000).2.fixed 4).1 : Int)) := ⟨_, rfl⟩
      rw [← hw7] at B7 hR7 O7 P7
      rw [inOf_34 _ _ _ _ _ _ HFB.out] at B7
      obtain ⟨a, hae1⟩ : ∃ a : InV, a = inOf r3.ref.1 Ac nc cc (r3.ref.2.text 2000).1 (((r3.ref.2.text 2000).2.fixed 4).1 : Int) := ⟨_, rfl⟩
      rw [← hae1] at B7
      have har : a.ref.Fine := by rw [hae1]; exact HFB.out
      have HAE := hide hae1
      have HAR := hide har
      have hld := loadIn_run w7 wb.heap.size 0 a B7.out.whole har
      have hmks := mkIns_run w7 a har
      rw [hw7] at hld hmks
      have hsz7 := hide (show w7.heap.size = wd.heap.size by rw [hw7]; simp)
      have hT7 := O7.out.blk Ta.out hntv.out
      have k1 : wd.cell? ⟨w1.heap.size, 1, none⟩ = some (.slice iA j iC) := (Od.out.blk Ta.out hntv.out).c1
      have HT7 := hide hT7
      have hrc7 := hide (O7.out.own hIa.out.row (fun q hq e => by have := hblk.out q hq; have := HGL.out; have := hs1.out; have := hs3.out; have h9 : q = g := e; omega))
      have O8 := hide (O7.out.alloc (.cells a.cells.toArray 60))
      have hR8 := hide (hR7.below ((Below.refl _ w7).alloc (Nat.le_refl _) (.cells a.cells.toArray 60)))
      have hrc8 := hide (show (w7.alloc (.cells a.cells.toArray 60)).ownsRow w3.heap.size 60 35 (.slice iA j iC) j (xs.flatMap InV.cells) from ((Only.refl (fun i => i = g) w7).alloc (.cells a.cells.toArray 60)).own hrc7.out (fun q hq e => by have := hblk.out q hq; have := HGL.out; have := hs1.out; have := hs3.out; have h9 : q = g := e; omega))
      have hT8 := hide (((Only.refl (fun i => i = g) w7).alloc (.cells a.cells.toArray 60)).blk HT7.out hntv.out)
      have hnw := hide (show ¬ (Value.slice iA j iC).ownBlock = some w1.heap.size from fun e => by have := hblk.out _ e; have := hs3.out; omega)
      clear od Od Bd O6 B6 hR6 hRd o7 hF4 har hae1 hT7 hR7 hrc7
      go_wp2_with (first
        | fail
        | (at_builtin; rw [← hw7]; clear hw7 y34 f34; refine wpList_row rfl 35 rfl _ _ 34 rfl 60 35 72 Try.underlying34 in_infoR (by decide) w3.heap.size (.slice iA j iC) j (xs.flatMap InV.cells) (by rfl) hrc8.out (Nat.le_trans hIa.out.only.size O8.out.size) wd.heap.size 0 1 1 a.cells (by rfl) (by rw [InV.cells_len HAR.out]) (by rw [← hsz7.out]; exact (Blk.new w7 60 a.cells).whole) (InV.one a) (by omega) (by decide) ?_; intro A9 c9 w9 q1 q2 q3 q4; have hT9 := q4.blk hT8.out hnw.out; have c1 : w9.cell? ⟨w1.heap.size, 1, none⟩ = some (.slice iA j iC) := hT9.c1; have f1 := hT9.frozen 1; simp only [Act.put, List.setIfInBounds_toArray, List.set_cons_zero, List.set_cons_succ]))
      have hfin := hide (InsAt.next' (a := a) hIa.out HR3.out (Nat.le_trans hwb.out (Nat.le_of_lt hs5.out)) hb56.out P7.out (fun i e => by rcases e with e | e <;> have := HGB.out <;> have := hs5.out <;> omega) HBc.out Hfc.out Hcc.out HFB.out HF4.out HAE.out O8.out hR8.out q1 q2 q3 q4 (by have := HGL.out; have := hs1.out; have := hs3.out; omega) (by have := HHL.out; have := hs1.out; have := hs3.out; omega) hs3.out hntv.out (by have := HHL.out; have := hs1.out; omega))
      exact ⟨⟨j + 1, xs ++ [a], A9, c9, by omega, by simp, hfin.out⟩, by simp [intOf]; omega⟩
    · obtain rfl : N = j := by omega
      have hjn : ¬ (N : Int) < (N : Int) := by omega
      have hsz4 := hide (Nat.le_trans (Nat.le_of_lt hs3.out) hI.only.size)
      obtain ⟨r3, hr3⟩ : ∃ r3, r3 = (Rd.rep Rd.inn N r2).2 := ⟨_, rfl⟩
      have HR3 := hide hr3
      have hrd : RdAt 128 wr g h r3 := by rw [hr3]; exact hI.rd
      clear hlt hj hr3 hI
      go_wp2_with fail
      refine (refcountof_any _ g h _ 200 hrd (by decide)).mono ?_
      rintro e w5 ⟨rfl, hR5, o5⟩
      have hM := count_most r3 200
      obtain ⟨M, r4, h4⟩ : ∃ M r4, r3.count 200 = (M, r4) := ⟨_, _, rfl⟩
      have e200 : (200 : Int).toNat = 200 := rfl
      rw [e200] at hR5 ⊢
      rw [h4] at hR5 hM ⊢
      simp only at hR5 hM ⊢
      have hcM : IntKind.i64.wrap (M : Int) = (M : Int) := by rw [IntKind.wrap_i64]; omega
      have T5 := hide (o5.blk HI.out.blk hntv.out)
      have hs5 := hide (show w1.heap.size < w5.heap.size from T5.out.lt)
      have O5 := hide o5
      have hR50 := hide hR5
      clear hrd hR5 o5 e200
      go_wp2_with fail
      go_loopw [8] (fun i ws => ∃ (j : Nat) (ys : List OutV) (oA : Option Addr) (oC : Nat), j ≤ M ∧ i = .int .i64 (j : Int) ∧ OutsAt 128 w5 ws g h w1.heap.size V iA N iC r4 j ys oA oC) (fun i _ => M - (intOf i).toNat)
      case atStart => exact ⟨0, [], none, 0, by omega, rfl, rfl, rfl, hR50.out, T5.out, Nat.le_refl _, World.ownsRow_nil _ _ _ _, (by simp), (by simp), Only.refl _ _⟩
      case round =>
        obtain ⟨j, ys, oA, oC, hj, rfl, hI⟩ := hrel
        have HI2 := hide hI
        by_cases hlt : j < M
        · obtain ⟨r3, hr3⟩ : ∃ r3, r3 = (Rd.rep Rd.out j r4).2 := ⟨_, rfl⟩
          have HR3 := hide hr3
          have hj1 : (j : Int) < (M : Int) := by omega
          have hj0 : (j : Int) ≤ 200 := by omega
          have hj200 : j ≤ 200 := by omega
          obtain ⟨wa, hwa⟩ : ∃ wa, wa = wr.drew := ⟨_, rfl⟩
          have hIa := hide (show OutsAt 128 w5 wa g h w1.heap.size V iA N iC r4 j ys oA oC by rw [hwa]; exact hI.drew)
          have hRc : RdAt 128 wa g h r3 := by rw [hr3]; exact hIa.out.rd
          have Ta := hide hIa.out.blk
          have hOc : Only (fun i => i = g) wa wa := Only.refl _ _
          have hblk := hide (show ∀ q, (Value.slice oA j oC).ownBlock = some q → w5.heap.size ≤ q ∧ q < wa.heap.size from hIa.out.row.lt)
          clear hr3 hI
          go_wp2_with fail
          refine wp_region_held_drew (S := fun _ => True) (by kernel_rfl) trivial (fun _ => ?_)
          rw [← hwa]
          clear hwa
          refine wpAnyH_take (i := 0) (v := ?_) rfl (by kernel_rfl) (by kernel_rfl) (by kernel_rfl) (fun _ _ _ h => h) (Or.inl ⟨by rfl, fun w' _ => ?_⟩) trivial ?_; rotate_left; focus (go_simp; try with_reducible rfl)
          simp only [Act.put, List.setIfInBounds_toArray]
          refine wpAnyH_take (i := 2) (v := ?_) rfl (by kernel_rfl) (by kernel_rfl) (by kernel_rfl) (fun _ _ _ h => h) (Or.inl ⟨by rfl, fun w' _ => ?_⟩) trivial ?_; rotate_left; focus (go_simp; try with_reducible rfl)
          simp only [Act.put]
          refine wpAnyH_ready (rs := [1, 3]) (by kernel_rfl) (by simp) ?_
          refine AllReadyH.cons rfl (fun K hK => ?_) (AllReadyH.cons rfl (fun K hK => ?_) AllReadyH.nil)
          · have c1 := (hOc.blk Ta.out hntv.out).c2
            go_simp
            refine hK.out _ _ trivial (fun _ => ?_)
            clear hK K
            refine wpAnyH_ready (rs := [3]) (by kernel_rfl) (by simp) ?_
            refine AllReadyH.cons rfl (fun K hK => ?_) AllReadyH.nil
            go_simp
            refine (refOutRead_any _ g h _ hRc).mono ?_
            rintro e wb ⟨a, rfl, had, hfb, hAb, hRb, ob⟩
            go_simp
            refine hK.out _ _ trivial (fun _ => ?_)
            clear hK K
            have hsz := hOc.size
            have hOc := hOc.trans ob (fun _ _ h => h)
            refine wpAnyH_ready (rs := [4]) (by kernel_rfl) (by simp) ?_
            refine AllReadyH.cons rfl (fun K hK => ?_) AllReadyH.nil
            go_simp
            refine hK.out _ _ trivial (fun _ => ?_)
            clear hK K
            have hOc := hOc.alloc (.cells #[.int .i64 a.v, .slice a.A a.n a.c] 62)
            have hRd := hRb.below ((Below.refl _ wb).alloc (Nat.le_refl _) (.cells #[.int .i64 a.v, .slice a.A a.n a.c] 62))
            refine wpAnyH_ready (rs := [5]) (by kernel_rfl) (by simp) ?_
            refine AllReadyH.cons rfl (fun K hK => ?_) AllReadyH.nil
            have hrc := hOc.own hIa.out.row (fun q hq e => by have := hblk.out q hq; have := HGL.out; have := hs1.out; have := hs5.out; have h9 : q = g := e; omega)
            refine step_row rfl 50 rfl _ _ 35 rfl 62 2 32 Try.underlying35 out_infoR (by decide) w5.heap.size (.slice oA j oC) j (ys.flatMap OutV.cells) (by rfl) hrc (Nat.le_trans hIa.out.only.size hOc.size) wb.heap.size 0 1 1 a.cells (by rfl) rfl (Blk.new wb 62 a.cells).whole (by intro v hv; simp only [OutV.cells, List.mem_cons, List.mem_nil_iff, or_false] at hv; rcases hv with rfl | rfl <;> rfl) (by omega) (by decide) ?_
            intro A9 c9 w9 q1 q2 q3 q4
            refine hK.out _ _ trivial (fun _ => ?_)
            clear hK K
            refine wpAnyH_take (i := 6) (v := ?_) rfl (by kernel_rfl) (by kernel_rfl) (by kernel_rfl) (fun _ _ _ h => h) (Or.inl ⟨by rfl, fun w' _ => ?_⟩) trivial ?_; rotate_left; focus (go_simp; try with_reducible rfl)
            simp only [Act.put, List.setIfInBounds_toArray, List.set_cons_zero, List.set_cons_succ]
            have hnw : ¬ (Value.slice oA j oC).ownBlock = some w1.heap.size := fun e => by have := hblk.out _ e; have := hs5.out; omega
            have hT9 := q4.blk (hOc.blk Ta.out hntv.out) hnw
            have c1 : w9.cell? ⟨w1.heap.size, 2, none⟩ = some (.slice oA j oC) := hT9.c2
            have f1 := hT9.frozen 2
            have hfin := hide (OutsAt.next hIa.out HR3.out hsz had hfb hAb ob.size hOc hRd q1 q2 q3 q4 (by have := HGL.out; have := hs1.out; have := hs5.out; omega) (by have := HHL.out; have := hs1.out; have := hs5.out; omega) hs5.out hntv.out (by have := HHL.out; have := hs1.out; omega))
            clear q1 q2 q3 q4 hT9 hrc hOc hRd hfb had hAb hRb ob
            refine wpAnyH_ready (rs := [7]) (by kernel_rfl) (by simp) ?_
            refine AllReadyH.cons rfl (fun K hK => ?_) AllReadyH.nil
            go_simp
            refine hK.out _ _ trivial (fun _ => ?_)
            clear hK K
            refine wpAnyH_done (by kernel_rfl) ?_ _
            go_wp2_with fail
            exact ⟨⟨j + 1, ys ++ [a], A9, c9, by omega, by simp, hfin.out⟩, by simp [intOf]; omega⟩
          · go_simp
            refine (refOutRead_any _ g h _ hRc).mono ?_
            rintro e wb ⟨a, rfl, had, hfb, hAb, hRb, ob⟩
            go_simp
            refine hK.out _ _ trivial (fun _ => ?_)
            clear hK K
            have hsz := hOc.size
            have hOc := hOc.trans ob (fun _ _ h => h)
            refine wpAnyH_ready (rs := [1, 4]) (by kernel_rfl) (by simp) ?_
            refine AllReadyH.cons rfl (fun K hK => ?_) (AllReadyH.cons rfl (fun K hK => ?_) AllReadyH.nil)
            · have c1 := (hOc.blk Ta.out hntv.out).c2
              go_simp
              refine hK.out _ _ trivial (fun _ => ?_)
              clear hK K
              refine wpAnyH_ready (rs := [4]) (by kernel_rfl) (by simp) ?_
              refine AllReadyH.cons rfl (fun K hK => ?_) AllReadyH.nil
              go_simp
              refine hK.out _ _ trivial (fun _ => ?_)
              clear hK K
              have hOc := hOc.alloc (.cells #[.int .i64 a.v, .slice a.A a.n a.c] 62)
              have hRd := hRb.below ((Below.refl _ wb).alloc (Nat.le_refl _) (.cells #[.int .i64 a.v, .slice a.A a.n a.c] 62))
              refine wpAnyH_ready (rs := [5]) (by kernel_rfl) (by simp) ?_
              refine AllReadyH.cons rfl (fun K hK => ?_) AllReadyH.nil
              have hrc := hOc.own hIa.out.row (fun q hq e => by have := hblk.out q hq; have := HGL.out; have := hs1.out; have := hs5.out; have h9 : q = g := e; omega)
              refine step_row rfl 50 rfl _ _ 35 rfl 62 2 32 Try.underlying35 out_infoR (by decide) w5.heap.size (.slice oA j oC) j (ys.flatMap OutV.cells) (by rfl) hrc (Nat.le_trans hIa.out.only.size hOc.size) wb.heap.size 0 1 1 a.cells (by rfl) rfl (Blk.new wb 62 a.cells).whole (by intro v hv; simp only [OutV.cells, List.mem_cons, List.mem_nil_iff, or_false] at hv; rcases hv with rfl | rfl <;> rfl) (by omega) (by decide) ?_
              intro A9 c9 w9 q1 q2 q3 q4
              refine hK.out _ _ trivial (fun _ => ?_)
              clear hK K
              refine wpAnyH_take (i := 6) (v := ?_) rfl (by kernel_rfl) (by kernel_rfl) (by kernel_rfl) (fun _ _ _ h => h) (Or.inl ⟨by rfl, fun w' _ => ?_⟩) trivial ?_; rotate_left; focus (go_simp; try with_reducible rfl)
              simp only [Act.put, List.setIfInBounds_toArray, List.set_cons_zero, List.set_cons_succ]
              have hnw : ¬ (Value.slice oA j oC).ownBlock = some w1.heap.size := fun e => by have := hblk.out _ e; have := hs5.out; omega
              have hT9 := q4.blk (hOc.blk Ta.out hntv.out) hnw
              have c1 : w9.cell? ⟨w1.heap.size, 2, none⟩ = some (.slice oA j oC) := hT9.c2
              have f1 := hT9.frozen 2
              have hfin := hide (OutsAt.next hIa.out HR3.out hsz had hfb hAb ob.size hOc hRd q1 q2 q3 q4 (by have := HGL.out; have := hs1.out; have := hs5.out; omega) (by have := HHL.out; have := hs1.out; have := hs5.out; omega) hs5.out hntv.out (by have := HHL.out; have := hs1.out; omega))
              clear q1 q2 q3 q4 hT9 hrc hOc hRd hfb had hAb hRb ob
              refine wpAnyH_ready (rs := [7]) (by kernel_rfl) (by simp) ?_
              refine AllReadyH.cons rfl (fun K hK => ?_) AllReadyH.nil
              go_simp
              refine hK.out _ _ trivial (fun _ => ?_)
              clear hK K
              refine wpAnyH_done (by kernel_rfl) ?_ _
              go_wp2_with fail
              exact ⟨⟨j + 1, ys ++ [a], A9, c9, by omega, by simp, hfin.out⟩, by simp [intOf]; omega⟩
            · go_simp
              refine hK.out _ _ trivial (fun _ => ?_)
              clear hK K
              have hOc := hOc.alloc (.cells #[.int .i64 a.v, .slice a.A a.n a.c] 62)
              have hRd := hRb.below ((Below.refl _ wb).alloc (Nat.le_refl _) (.cells #[.int .i64 a.v, .slice a.A a.n a.c] 62))
              refine wpAnyH_ready (rs := [1]) (by kernel_rfl) (by simp) ?_
              refine AllReadyH.cons rfl (fun K hK => ?_) AllReadyH.nil
              have c1 := (hOc.blk Ta.out hntv.out).c2
              go_simp
              refine hK.out _ _ trivial (fun _ => ?_)
              clear hK K
              refine wpAnyH_ready (rs := [5]) (by kernel_rfl) (by simp) ?_
              refine AllReadyH.cons rfl (fun K hK => ?_) AllReadyH.nil
              have hrc := hOc.own hIa.out.row (fun q hq e => by have := hblk.out q hq; have := HGL.out; have := hs1.out; have := hs5.out; have h9 : q = g := e; omega)
              refine step_row rfl 50 rfl _ _ 35 rfl 62 2 32 Try.underlying35 out_infoR (by decide) w5.heap.size (.slice oA j oC) j (ys.flatMap OutV.cells) (by rfl) hrc (Nat.le_trans hIa.out.only.size hOc.size) wb.heap.size 0 1 1 a.cells (by rfl) rfl (Blk.new wb 62 a.cells).whole (by intro v hv; simp only [OutV.cells, List.mem_cons, List.mem_nil_iff, or_false] at hv; rcases hv with rfl | rfl <;> rfl) (by omega) (by decide) ?_
              intro A9 c9 w9 q1 q2 q3 q4
              refine hK.out _ _ trivial (fun _ => ?_)
              clear hK K
              refine wpAnyH_take (i := 6) (v := ?_) rfl (by kernel_rfl) (by kernel_rfl) (by kernel_rfl) (fun _ _ _ h => h) (Or.inl ⟨by rfl, fun w' _ => ?_⟩) trivial ?_; rotate_left; focus (go_simp; try with_reducible rfl)
              simp only [Act.put, List.setIfInBounds_toArray, List.set_cons_zero, List.set_cons_succ]
              have hnw : ¬ (Value.slice oA j oC).ownBlock = some w1.heap.size := fun e => by have := hblk.out _ e; have := hs5.out; omega
              have hT9 := q4.blk (hOc.blk Ta.out hntv.out) hnw
              have c1 : w9.cell? ⟨w1.heap.size, 2, none⟩ = some (.slice oA j oC) := hT9.c2
              have f1 := hT9.frozen 2
              have hfin := hide (OutsAt.next hIa.out HR3.out hsz had hfb hAb ob.size hOc hRd q1 q2 q3 q4 (by have := HGL.out; have := hs1.out; have := hs5.out; omega) (by have := HHL.out; have := hs1.out; have := hs5.out; omega) hs5.out hntv.out (by have := HHL.out; have := hs1.out; omega))
              clear q1 q2 q3 q4 hT9 hrc hOc hRd hfb had hAb hRb ob
              refine wpAnyH_ready (rs := [7]) (by kernel_rfl) (by simp) ?_
              refine AllReadyH.cons rfl (fun K hK => ?_) AllReadyH.nil
              go_simp
              refine hK.out _ _ trivial (fun _ => ?_)
              clear hK K
              refine wpAnyH_done (by kernel_rfl) ?_ _
              go_wp2_with fail
              exact ⟨⟨j + 1, ys ++ [a], A9, c9, by omega, by simp, hfin.out⟩, by simp [intOf]; omega⟩
        · obtain rfl : M = j := by omega
          have hjm : ¬ (M : Int) < (M : Int) := by omega
          obtain ⟨r5, hr5⟩ : ∃ r5, r5 = (Rd.rep Rd.out M r4).2 := ⟨_, rfl⟩
          have HR5 := hide hr5
          have hrd : RdAt 128 wr g h r5 := by rw [hr5]; exact hI.rd
          clear hlt hj hr5 hI
          go_wp2_with fail
          refine (reffixedof_any _ g h _ 4 hrd).mono ?_
          rintro e w7 ⟨rfl, hR7, o7⟩
          have hU := hide (fixed_u32 r5 (by obtain ⟨_, _, _, _, hB2, _⟩ := hrd; exact hB2.2.1))
          obtain ⟨U, r6, h6⟩ : ∃ U r6, r5.fixed 4 = (U, r6) := ⟨_, _, rfl⟩
          rw [h6] at hR7 hU ⊢
          simp only at hR7 hU ⊢
          have hcU : IntKind.u32.wrap (U : Int) = (U : Int) := by have := hU.out; rw [IntKind.wrap_u32]; omega
          have T7 := o7.blk HI2.out.blk hntv.out
          have k3 : w7.cell? ⟨w1.heap.size, 3, none⟩ = some (.int .u32 0) := T7.c3
          have f3 := T7.frozen 3
          have T8 := hide (T7.set_ 3 (.int .u32 (U : Int)))
          have oc8 := Only.cell1 w7 w1.heap.size 3 (.int .u32 (U : Int))
          have hR8 := hR7.keep oc8 (fun e => hntv.out e.symm) (fun e => by have := HHL.out; have := hs1.out; have h9 : h = w1.heap.size := e; omega)
          obtain ⟨w8, hw8⟩ : ∃ w8, w8 = w7.setCell ⟨w1.heap.size, 3, none⟩ (.int .u32 (U : Int)) := ⟨_, rfl⟩
          rw [← hw8] at T8 oc8 hR8
          have O8 := hide ((o7.mono (G := fun i => i = g ∨ i = w1.heap.size) (fun _ _ h => .inl h)).trans oc8 (fun _ _ h => .inr h))
          have hR80 := hide hR8
          have C7 := hide T7
          have HR7 := hide hR7
          have hO58 := hide (HI2.out.only.trans O8.out (fun _ _ h => h))
          have hO38 := hide ((HI.out.only.trans (O5.out.mono (G := fun i => i = g ∨ i = w1.heap.size) (fun _ _ h => .inl h)) (fun _ _ h => h)).trans hO58.out (fun _ _ h => h))
          have BR8 := hide (hO38.out.blk B3.out (fun e => by rcases e with e | e; exact hnrv.out e; have := hs1.out; omega))
          have hall := hide (txRaw_eq r V r1 N r2 M r4 U r6 h1 h2 (by rw [← HR3.out]; exact h4) (by rw [← HR5.out]; exact h6))
          clear T7 hrd hR7 o7 oc8 hR8 h6
          have k0 : w7.cell? ⟨w1.heap.size, 0, none⟩ = some (.int .u32 (V : Int)) := C7.out.c0
          have k1 : w7.cell? ⟨w1.heap.size, 1, none⟩ = some (.slice iA N iC) := C7.out.c1
          have k2 : w7.cell? ⟨w1.heap.size, 2, none⟩ = some (.slice oA M oC) := C7.out.c2
          have e1 : w7.cell? ⟨g, 1, none⟩ = some (.int .i64 r6.err) := by obtain ⟨_, _, _, hb, _⟩ := HR7.out; exact hb.c1
          have lz4 : (txcells 0 none 0 0 none 0 0 0).length = 4 := rfl
          have hIT : (Try.prog.info? 37).map (·.size) = some 4 := by kernel_rfl
          have HUT := hide Try.underlying37
          have hone : ∀ (a b c d : Int) (A1 A2 : Option Addr) (n1 c1 n2 c2 : Nat), ∀ v ∈ txcells a A1 n1 c1 A2 n2 c2 d, v.oneCell' = true := by
            intro a b c d A1 A2 n1 c1 n2 c2 v hv
            simp only [txcells, List.mem_cons, List.mem_nil_iff, or_false] at hv
            rcases hv with rfl | rfl | rfl | rfl <;> rfl
          by_cases he : r6.err = 0
          · have hres : r.tx = (⟨(V : Int), (Rd.rep Rd.inn N r2).1, (Rd.rep Rd.out M r4).1, (U : Int)⟩, r6) := by
              unfold Rd.tx
              rw [hall.out]
              simp [he]
            have HRES := hide hres
            have he1 : (r6.err == 0) = true := by simpa using he
            have he2 : (r6.err != 0) = false := by simpa using he
            clear hres
            go_wp2_with (rw [← hw8]; refine wpList_store_blk rfl 37 _ _ rfl w.heap.size 0 37 (txcells 0 none 0 0 none 0 0 0) (txcells (V : Int) iA N iC oA M oC (U : Int)) (by rfl) (by rfl) BR8.out (Nat.le_refl _) (by exact hIT) (hone _ 0 0 _ _ _ _ _ _ _) ?_; intro w9 o9 z9 b9; simp only [Act.put])
            rw [lay_all (txcells 0 none 0 0 none 0 0 0) _ (by rfl)] at b9
            have hvals := hide (show w.heap.size < w1.heap.size ∧ w1.heap.size < w3.heap.size ∧ w1.heap.size < w5.heap.size ∧ g < w.heap.size ∧ h < w.heap.size from ⟨hs1.out, hs3.out, hs5.out, HGL.out, HHL.out⟩)
            refine bodyPost_ret (results_cell_blk rfl _ _ w.heap.size 37 _ _ (by rfl) b9 HUT.out rfl (by exact hIT)) rfl ?_
            rw [HRES.out]
            obtain ⟨v1, v2, v3, v4, v5⟩ := hvals.out
            refine ⟨⟨(V : Int), iA, N, iC, xs, oA, M, oC, ys, (U : Int)⟩, rfl, ?_, fun w' hw' => ?_, ?_, ?_, ?_⟩
            · show (⟨(V : Int), xs.map InV.d, ys.map OutV.d, (U : Int)⟩ : TxD) = _
              rw [HI.out.data, HI2.out.data]
            · refine ⟨by show (0 : Int) ≤ (V : Int) ∧ (V : Int) ≤ 4294967295; have := hV.out; omega, by show (0 : Int) ≤ (U : Int) ∧ (U : Int) ≤ 4294967295; have := hU.out; omega, ?_, ?_, HI.out.cap, HI2.out.cap⟩
              · exact HI.out.later ((((O5.out.mono (G := fun i => i < w3.heap.size) (fun i _ h => by have h9 : i = g := h; omega)).trans hO58.out (fun i _ h => by rcases h with h | h <;> omega)).trans o9 (fun i _ h => by have h9 : i = w.heap.size := h; omega)).trans hw' (fun i _ h => by have h9 : i < w.heap.size := h; omega))
              · exact HI2.out.later (((O8.out.mono (G := fun i => i < w5.heap.size) (fun i _ h => by rcases h with h | h <;> omega)).trans o9 (fun i _ h => by have h9 : i = w.heap.size := h; omega)).trans hw' (fun i _ h => by have h9 : i < w.heap.size := h; omega))
            · exact ⟨by show N ≤ 1000; omega, by show M ≤ 1000; omega, fun a ha => Nat.le_trans (HI.out.small a ha) (by decide), fun a ha => Nat.le_trans (HI2.out.small a ha) (by decide)⟩
            · exact hR80.out.keep o9 (fun e => by have h9 : g = w.heap.size := e; omega) (fun e => by have h9 : h = w.heap.size := e; omega)
            · exact (O3.out.trans hO38.out (fun i hi e => by rcases e with e | e; exact e; omega)).trans o9 (fun i hi e => by have h9 : i = w.heap.size := e; omega)
          · have hres : r.tx = (zeroT, r6) := by
              unfold Rd.tx
              rw [hall.out]
              simp [he]
            have HRES := hide hres
            have he' : (r6.err == 0) = false := by simpa using he
            have he2 : (r6.err != 0) = true := by simpa using he
            clear hres
            go_wp2_with (rw [← hw8]; refine wpList_store_blk rfl 37 _ _ rfl w.heap.size 0 37 (txcells 0 none 0 0 none 0 0 0) (txcells 0 none 0 0 none 0 0 0) (by rfl) (by rfl) BR8.out (Nat.le_refl _) (by exact hIT) (hone _ 0 0 _ _ _ _ _ _ _) ?_; intro w9 o9 z9 b9; simp only [Act.put])
            rw [lay_all (txcells 0 none 0 0 none 0 0 0) _ (by rfl)] at b9
            have hvals := hide (show w.heap.size < w1.heap.size ∧ w1.heap.size < w3.heap.size ∧ w1.heap.size < w5.heap.size ∧ g < w.heap.size ∧ h < w.heap.size from ⟨hs1.out, hs3.out, hs5.out, HGL.out, HHL.out⟩)
            refine bodyPost_ret (results_cell_blk rfl _ _ w.heap.size 37 _ _ (by rfl) b9 HUT.out rfl (by exact hIT)) rfl ?_
            rw [HRES.out]
            obtain ⟨v1, v2, v3, v4, v5⟩ := hvals.out
            refine ⟨⟨0, none, 0, 0, [], none, 0, 0, [], 0⟩, rfl, rfl, fun w' _ => ⟨by decide, by decide, RowsIn.nil _ _ _ _ _, RowsIn.nil _ _ _ _ _, Nat.le_refl _, Nat.le_refl _⟩, ⟨by decide, by decide, by simp, by simp⟩, ?_, ?_⟩
            · exact hR80.out.keep o9 (fun e => by have h9 : g = w.heap.size := e; omega) (fun e => by have h9 : h = w.heap.size := e; omega)
            · exact (O3.out.trans hO38.out (fun i hi e => by rcases e with e | e; exact e; omega)).trans o9 (fun i hi e => by have h9 : i = w.heap.size := e; omega)
end Go.Proofs.Ytbpmcnfmgaolnaa
/-
  The document: transactions as bytes.
-/
namespace Go.Proofs.Ytbpmcnfmgaolnaa
open Go.RowKit

/-- Bytes of one's own, apart from block v. -/
def MineN (w0 w : World) (A : Option Addr) (n c : Nat) (bs : List Int) (v : Nat) : Prop :=
  Below w0.heap.size w0 w ∧ n = bs.length ∧ ∃ G, Tail w 5 (.slice A n c) bs G ∧ (∀ i, G i → w0.heap.size ≤ i) ∧ ¬ G v
theorem MineN.mine {w0 w : World} {A : Option Addr} {n c : Nat} {bs : List Int} {v : Nat} (h : MineN w0 w A n c bs v) : Mine 5 w0 w A n c bs := by
  obtain ⟨h0, h1, G, h2, h3, _⟩ := h
  exact ⟨h0, h1, G, h2, h3⟩
theorem MineN.of {w0 wo w : World} {A : Option Addr} {n c : Nat} {bs : List Int} {v : Nat} (h : Mine 5 w0 wo A n c bs) (hv : wo.heap.size ≤ v) (hb : Below wo.heap.size wo w) : MineN w0 w A n c bs v := by
  obtain ⟨h0, h1, G, h2, h3⟩ := h
  exact ⟨Below.then_ h0 hb, h1, G, h2.below hb, h3, fun e => by have := h2.lt v e; omega⟩
theorem MineN.under {w0 w w' : World} {A : Option Addr} {n c : Nat} {bs : List Int} {v : Nat} (h : MineN w0 w A n c bs v) (hb : Below w.heap.size w w') : MineN w0 w' A n c bs v := by
  obtain ⟨h0, h1, G, h2, h3, h4⟩ := h
  exact ⟨Below.then_ h0 hb, h1, G, h2.below hb, h3, h4⟩
theorem wpList_appN {w : World} {ops : Array Oper} {rest : List Oper} {o : Oper} {a : Act} {Q : Exit → Act → World → Prop} (hgd : o.guard = none) (s x : Operand)
    (ho : o.op = .call { callee := .builtin .append, args := #[s, x], argTypes := #[56, 56] })
    (w0 : World) (v : Nat) (A : Option Addr) (n c : Nat) (bs : List Int) (hs : a.eval s = .slice A n c) (h : MineN w0 w A n c bs v) (hv : v < w.heap.size) (B : Option Addr) (m c' : Nat) (cs : List Int) (hx : a.eval x = .slice B m c') (hB : Bys w B m cs) (hlen : n + m ≤ 140737488355328)
    (hK : ∀ A' n' c' w', MineN w0 w' A' n' c' (bs ++ cs) v → Only (fun i => i ≠ v) w w' → wpList Try.prog ops Q rest (a.put o.dst (.slice A' n' c')) w') : wpList Try.prog ops Q (o :: rest) a w := by
  obtain ⟨i, z, hi, hz, hs1, hby, hzs⟩ := u8_info
  obtain ⟨h0, rfl, G, h1, h2, h3⟩ := h
  refine wpList_append_tail hgd s x 56 ho 5 i z Try.underlying56 hi hz hs1 hby hzs _ bs G hs h1 B m c' cs hx hB hlen fun A' c2 G' w' t' o' g' k' => ?_
  have hG : ∀ i, G' i → w0.heap.size ≤ i := fun i hi => by
    rcases g' i hi with h | h
    · exact h2 i h
    · exact Nat.le_trans h0.size h
  exact hK A' _ c2 w' ⟨h0.trans (o'.below h0.size (fun i hi hg => by have := h2 i hg; omega)), by rw [List.length_append, hB.1], G', t', hG, fun e => by
    rcases g' v e with h | h
    · exact h3 h
    · omega⟩ (o'.mono (fun i _ hg e => h3 (by rw [← e]; exact hg)))
attribute [local go_sem ↓] loadIn_fold loadRef_fold
set_option maxHeartbeats 4000000 in
set_option maxRecDepth 100000 in
theorem refTBytes_any (w : World) (t : TxV) (hf : t.Fine w) (hs : t.Small) :
    Calls Try.prog 56 #[.agg t.cells.toArray] w (MinePost 5 w none t.d.bytes) := by
  have E := hide (TxD.bytes_eq t)
  obtain ⟨version, iA, iN, iC, ins, oA, oN, oC, outs, until_⟩ := t
  obtain ⟨hv, hu, hins, houts, hic, hoc⟩ := hf
  obtain ⟨hs1, hs2, hs3, hs4⟩ := hs
  simp only at hv hu hins houts hic hoc hs1 hs2 hs3 hs4 E
  have HV := hide hv
  have HU := hide hu
  have HN := hide hs1
  have HM := hide hs2
  have HUL := hide hs3
  have HLK := hide hs4
  have vv := u64_small version hv.1 hv.2
  have vu := u64_small until_ hu.1 hu.2
  have vn := u64_small (iN : Int) (by omega) (by omega)
  have vm := u64_small (oN : Int) (by omega) (by omega)
  have B0 := Blk.new w 37 [.int .u32 version, .slice iA iN iC, .slice oA oN oC, .int .u32 until_]
  have hb0 := hide (show Below w.heap.size w (w.alloc (.cells #[.int .u32 version, .slice iA iN iC, .slice oA oN oC, .int .u32 until_] 37)) from below_alloc (Below.refl _ _) _)
  have HI := hide (hins.below' hb0.out)
  have HO1 := hide (houts.below' hb0.out)
  clear hins houts hs1 hs2 hs3 hs4 hv hu hic hoc
  show Calls _ _ #[.agg #[.int .u32 version, .slice iA iN iC, .slice oA oN oC, .int .u32 until_]] _ _
  go_enter Try.func56, Try.ntmps56
  go_wp2_with fail
  obtain ⟨w1, hw1⟩ : ∃ w1, w1 = w.alloc (.cells #[.int .u32 version, .slice iA iN iC, .slice oA oN oC, .int .u32 until_] 37) := ⟨_, rfl⟩
  rw [← hw1] at B0 hb0 HI HO1 ⊢
  clear hw1
  have x0 := B0.c0
  have x1 := B0.c1
  have x2 := B0.c2
  have x3 := B0.c3
  refine (reffixed_any w1 w1 version 4 (Below.refl _ _) HV.out.1 (by have := HV.out.2; omega)).mono ?_
  rintro e w2 ⟨A2, n2, c2, rfl, t2, f2⟩
  have x1' := cell_under t2.below x1
  have hn2 := hide t2.len
  have T2 := hide t2
  clear t2 f2
  go_wp2_with fail
  refine (refcount_any w2 w2 (iN : Int) (Below.refl _ _) (by omega) (by have := HN.out; omega)).mono ?_
  rintro e w2b ⟨Ab, nb, cb, rfl, tb, fb⟩
  have HTb := hide tb.bys
  have HBb := hide tb.below
  have hlb := hide tb.len
  clear tb fb x1'
  go_wp2_with (at_builtin; refine wpList_app rfl _ _ rfl w1 A2 n2 c2 _ (by rfl) (T2.out.keep HBb.out) Ab nb cb _ (by rfl) HTb.out (by have h1 := hlb.out; have h2 := hn2.out; have h3 := (cnt_length (iN : Int).toNat).2; rw [dig_length, show (Rd.within 4).toNat = 4 from rfl] at h2; omega) ?_; intro A3 n3 c3 w3 t3 f3; have y1 := cell_under t3.below x1; have t3' := hide t3; clear t3 f3; simp only [Act.put, List.setIfInBounds_toArray, List.set_cons_zero, List.set_cons_succ])
  obtain ⟨p0, hp0⟩ : ∃ p0, p0 = dig version.toNat 4 ++ cnt iN := ⟨_, rfl⟩
  have T3 := hide (show Mine 5 w1 w3 A3 n3 c3 p0 from by rw [hp0]; exact t3'.out)
  have HP0 := hide hp0
  have hl0 : p0.length ≤ 13 := by rw [hp0, List.length_append, dig_length]; have := (cnt_length iN).2; omega
  have HL0 := hide hl0
  have hilen := hide HI.out.1
  clear hp0 hl0 T2 hn2 HTb HBb hlb
  go_loopw [3, 22] (fun b i ws => ∃ (j : Nat) (A' : Option Addr) (m' c' : Nat), j ≤ iN ∧ i = .int .i64 j ∧ b = .slice A' m' c' ∧ Mine 5 w1 ws A' m' c' (p0 ++ (ins.take j).flatMap fun a => a.d.bytes)) (fun _ i _ => iN - (intOf i).toNat)
  case atStart => exact ⟨0, A3, n3, c3, by omega, rfl, rfl, by simpa using T3.out⟩
  case round =>
    obtain ⟨j, A4, n4, c4, hj, rfl, rfl, ht⟩ := hrel
    have HT := hide ht
    have hlen4 : n4 ≤ 13 + 10100 * j := by
      have h1 := ht.len
      have h2 := flatMap_len (fun a : InV => a.d.bytes) (ins.take j) 10100 (fun a ha => (HI.out.2.1 a (List.mem_of_mem_take ha)).ref |> fun hr => InV.bytes_len a hr (by have h3 := (HI.out.2.1 a (List.mem_of_mem_take ha)).bys.1; have h4 := HUL.out a (List.mem_of_mem_take ha); omega))
      rw [List.length_append] at h1
      rw [List.length_take] at h2
      have h5 := HL0.out
      have h6 : 10100 * min j ins.length ≤ 10100 * j := Nat.mul_le_mul_left _ (Nat.min_le_left _ _)
      omega
    have HLEN4 := hide hlen4
    by_cases hlt : j < iN
    · obtain ⟨a, ha⟩ : ∃ a, ins[j]? = some a := ⟨_, List.getElem?_eq_getElem (by have := hilen.out; omega)⟩
      have haf := (HI.out.2.1 a (List.mem_of_getElem? ha))
      have haW := haf.below ht.below
      obtain ⟨b, off, rfl, hrow⟩ := HI.out.2.2 (by omega)
      have hld := loadIn_run wr b (off + j * 35) a (range_under (hrow j a ha) ht.below) haf.ref
      have HA0 := hide haW
      have HAB := hide haf.bys
      have HC := hide haf.cap
      have HO := hide haf.order
      have vo := u64_small a.order haf.order.1 haf.order.2
      have hta := flatMap_take (fun a : InV => a.d.bytes) ins j a ha
      have HTA := hide hta
      have lz : zeroI.cells.length = 35 := rfl
      have la : a.cells.length = 35 := InV.cells_len haf.ref
      have hla : a.bs.length ≤ 10000 := by have h3 := haf.bys.1; have h4 := HUL.out a (List.mem_of_getElem? ha); omega
      have HLA := hide hla
      have KZ := hide (Blk.new wr 60 zeroI.cells)
      have hI := isIn
      have i0 : (0 : Int) ≤ (j : Int) := by omega
      have i1 : (j : Int) < (iN : Int) := by omega
      clear ht haf haW hrow hta hla hlen4 ha
      go_wp2_with (first
        | (refine wpList_alloc_agg rfl 60 rfl zeroI.cells zeroIn_info ?_; simp only [Act.put, List.setIfInBounds_toArray, List.set_cons_zero, List.set_cons_succ])
        | (refine wpList_store_blk rfl 60 _ _ rfl wr.heap.size 0 60 zeroI.cells a.cells (by rfl) (by rfl) KZ.out (by rw [lz, la]; decide) (by rw [hI, la]) (InV.one a) ?_; intro w5 o5 z5 b5; rw [lay_all zeroI.cells _ (by rw [lz, la])] at b5; have hlr := loadRef_run w5 wr.heap.size 0 a.ref (InV.range_ref b5.whole) HA0.out.ref; simp only [Act.put]))
      have hb5 : Below wr.heap.size wr w5 := Below.trans ((Below.refl _ wr).alloc (Nat.le_refl _) _) (o5.below (by simp) (fun i hi e => by have h9 : i = wr.heap.size := e; omega))
      have HB5 := hide hb5
      have B5 := hide b5
      clear o5 z5 b5 hld KZ
      refine (refRefBytes_any w5 a.ref HA0.out.ref).mono ?_
      rintro e wq ⟨Aq, nq, cq, rfl, tq, fq⟩
      have hbq := Below.then_ HB5.out tq.below
      have HBQ := hide hbq
      have HBq := hide tq.bys
      have B6q := hide (B5.out.under tq.below)
      have HLq := hide tq.len
      clear tq fq hlr hbq
      go_wp2_with (at_builtin; refine wpList_appN rfl _ _ rfl w1 wr.heap.size A4 n4 c4 _ (by rfl) (MineN.of HT.out (Nat.le_refl _) HBQ.out) B6q.out.lt Aq nq cq _ (by rfl) HBq.out (by have := HLq.out; have h1 := HLEN4.out; have h2 := HN.out; simp only [RefD.bytes, List.length_append, dig_length, HA0.out.ref.len] at this; omega) ?_; intro A5 n5 c5 w6 t5 o6; have y33 := InV.c33 (o6.blk B6q.out (fun e => e rfl)).whole HA0.out.ref; simp only [Act.put, List.setIfInBounds_toArray, List.set_cons_zero, List.set_cons_succ])
      have B6 := hide (o6.blk B6q.out (fun e => e rfl))
      have T5 := hide t5
      have HA := hide (HAB.out.below t5.mine.below)
      have hl5 : n5 ≤ 20000000 := by
        have h0 := t5.mine.len
        have h1 := HT.out.len
        have h2 := HLEN4.out
        have h3 := HN.out
        rw [List.length_append, h1] at h0
        simp only [RefD.bytes, List.length_append, dig_length, HA0.out.ref.len] at h0
        omega
      have HL5 := hide hl5
      clear t5 o6 hl5 B6q HBq HLq
      refine (reftext_any w6 w6 a.A a.n a.c a.bs (Below.refl _ _) HA.out (by have h1 := HA.out.1; have h2 := HLA.out; omega)).mono ?_
      rintro e wt ⟨At, nt, ct, rfl, tt, ft⟩
      have HTt := hide tt.bys
      have hlt2 : nt ≤ 10009 := by have h1 := tt.len; have h2 := txt_len a.bs; have h3 := HLA.out; omega
      have HLT := hide hlt2
      have T5t := hide (T5.out.under tt.below)
      have B6t := hide (B6.out.under tt.below)
      clear tt ft hlt2 y33
      go_wp2_with (at_builtin; refine wpList_appN rfl _ _ rfl w1 wr.heap.size A5 n5 c5 _ (by rfl) T5t.out B6t.out.lt At nt ct _ (by rfl) HTt.out (by have := HLT.out; have := HL5.out; omega) ?_; intro A7 n7 c7 w7 t7 o7; have B7 := hide (o7.blk B6t.out (fun e => e rfl)); have y34 := InV.c34 B7.out.whole HA0.out.ref; have T7 := hide t7; clear t7 o7; simp only [Act.put, List.setIfInBounds_toArray, List.set_cons_zero, List.set_cons_succ])
      refine (reffixed_any w7 w7 a.order 4 (Below.refl _ _) HO.out.1 (by have := HO.out.2; omega)).mono ?_
      rintro e wf ⟨Af, nf, cf, rfl, tf, ff⟩
      have HTf := hide tf.bys
      have hlf : nf ≤ 8 := by have h1 := tf.len; rw [dig_length] at h1; have h2 : (Rd.within 4).toNat = 4 := rfl; omega
      have HLF := hide hlf
      have hl7 : n7 ≤ 20010009 := by
        have h0 := T7.out.mine.len
        have h1 := T5.out.mine.len
        have h2 := txt_len a.bs
        have h3 := HLA.out
        have h4 := HL5.out
        rw [List.length_append, h1] at h0
        omega
      have HL7 := hide hl7
      have T7f := hide (T7.out.under tf.below)
      have B7f := hide (B7.out.under tf.below)
      have hj9 : (j : Int) ≤ 1000 := by have := HN.out; omega
      clear tf ff hlf hl7
      go_wp2_with (at_builtin; refine wpList_appN rfl _ _ rfl w1 wr.heap.size A7 n7 c7 _ (by rfl) T7f.out B7f.out.lt Af nf cf _ (by rfl) HTf.out (by have := HLF.out; have := HL7.out; omega) ?_; intro A8 n8 c8 w8 t8 o8; simp only [Act.put, List.setIfInBounds_toArray, List.set_cons_zero, List.set_cons_succ])
      refine ⟨⟨j + 1, A8, n8, c8, by omega, by simp, rfl, ?_⟩, by simp [intOf]; omega⟩
      rw [HTA.out]
      have e : p0 ++ ((ins.take j).flatMap (fun a => a.d.bytes) ++ a.d.bytes) = p0 ++ (ins.take j).flatMap (fun a => a.d.bytes) ++ a.ref.bytes ++ txt a.bs ++ dig a.order.toNat (Rd.within 4).toNat := by
        rw [show (Rd.within 4).toNat = 4 from rfl]
        simp [InV.d, InD.bytes]
      rw [e]
      exact t8.mine
    · obtain rfl : iN = j := by omega
      have hall : ins.take iN = ins := List.take_of_length_le (by have := hilen.out; omega)
      rw [hall] at HT
      have z2 := cell_under HT.out.below x2
      have z3 := cell_under HT.out.below x3
      clear ht hall hlen4 hlt hj
      have hl4 : n4 ≤ 20000000 := by have := HLEN4.out; have := HN.out; omega
      go_wp2_with fail
      refine (refcount_any wr wr (oN : Int) (Below.refl _ _) (by omega) (by have := HM.out; omega)).mono ?_
      rintro e wk ⟨Ak, nk, ck, rfl, tk, fk⟩
      have HTk := hide tk.bys
      have HBk := hide tk.below
      have hlk : nk ≤ 9 := by have h1 := tk.len; have h3 := (cnt_length (oN : Int).toNat).2; omega
      have HLk := hide hlk
      clear tk fk hlk
      go_wp2_with (at_builtin; refine wpList_app rfl _ _ rfl w1 A4 n4 c4 _ (by rfl) (HT.out.keep HBk.out) Ak nk ck _ (by rfl) HTk.out (by have := HLk.out; omega) ?_; intro Ab nb cb wb tb fb; have z2 := cell_under tb.below x2; have tb' := hide tb; clear tb fb; simp only [Act.put, List.setIfInBounds_toArray, List.set_cons_zero, List.set_cons_succ])
      have Tb := hide (show Mine 5 w1 wb Ab nb cb _ from tb'.out)
      have z2 := cell_under Tb.out.below x2
      obtain ⟨p1, hp1⟩ : ∃ p1, p1 = p0 ++ ins.flatMap (fun a => a.d.bytes) ++ cnt oN := ⟨_, rfl⟩
      have e1 : ((oN : Int)).toNat = oN := by omega
      rw [e1, ← hp1] at Tb
      have HP1 := hide hp1
      have hl1 : p1.length ≤ 30000000 := by
        have h1 := HT.out.len
        rw [hp1, List.length_append, h1]
        have := (cnt_length oN).2
        omega
      have HL1 := hide hl1
      have holen := hide HO1.out.1
      clear hp1 e1 hl1
      go_loopw [3, 53] (fun b i ws => ∃ (j : Nat) (A' : Option Addr) (m' c' : Nat), j ≤ oN ∧ i = .int .i64 j ∧ b = .slice A' m' c' ∧ Mine 5 w1 ws A' m' c' (p1 ++ (outs.take j).flatMap fun a => a.d.bytes)) (fun _ i _ => oN - (intOf i).toNat)
      case atStart => exact ⟨0, Ab, nb, cb, by omega, rfl, rfl, by simpa using Tb.out⟩
      case round =>
        obtain ⟨j, A6, n6, c6, hj, rfl, rfl, ht⟩ := hrel
        have HT2 := hide ht
        have hlen6 : n6 ≤ 30000000 + 10100 * j := by
          have h1 := ht.len
          have h2 := flatMap_len (fun a : OutV => a.d.bytes) (outs.take j) 10100 (fun a ha => OutV.bytes_len a (by have h3 := (HO1.out.2.1 a (List.mem_of_mem_take ha)).bys.1; have h4 := HLK.out a (List.mem_of_mem_take ha); omega))
          rw [List.length_append] at h1
          rw [List.length_take] at h2
          have h5 := HL1.out
          have h6 : 10100 * min j outs.length ≤ 10100 * j := Nat.mul_le_mul_left _ (Nat.min_le_left _ _)
          omega
        have HLEN6 := hide hlen6
        by_cases hlt : j < oN
        · obtain ⟨a, ha⟩ : ∃ a, outs[j]? = some a := ⟨_, List.getElem?_eq_getElem (by have := holen.out; omega)⟩
          have haf := HO1.out.2.1 a (List.mem_of_getElem? ha)
          obtain ⟨b, off, rfl, hrow⟩ := HO1.out.2.2 (by omega)
          have hr := range_under (hrow j a ha) ht.below
          have k0 := rangeAt_c0 hr
          have k1 := rangeAt_c1 hr
          have HTA := hide (flatMap_take (fun a : OutV => a.d.bytes) outs j a ha)
          have HAF := hide (haf.below ht.below)
          have hln : a.n ≤ 10000 := HLK.out a (List.mem_of_getElem? ha)
          have HLN := hide hln
          have i0 : (0 : Int) ≤ (j : Int) := by omega
          have i1 : (j : Int) < (oN : Int) := by omega
          have hj9 : (j : Int) ≤ 1000 := by have := HM.out; omega
          clear ht haf hrow hr hln hlen6 ha
          go_wp2_with fail
          refine (refOutBytes_any _ a (HAF.out.below (below_alloc (Below.refl _ _) _)) (by have := HLN.out; omega)).mono ?_
          rintro e wq ⟨Aq, nq, cq, rfl, tq, fq⟩
          have hbq : Below wr.heap.size wr wq := Below.then_ (below_alloc (Below.refl _ wr) (.cells #[.int .i64 a.v, .slice a.A a.n a.c] 62)) tq.below
          have HBQ := hide hbq
          have HBq := hide tq.bys
          have hlq : nq ≤ 10100 := by rw [← tq.len]; exact OutV.bytes_len a (by rw [HAF.out.bys.1]; exact HLN.out)
          clear tq fq hbq
          go_wp2_with (at_builtin; refine wpList_app3 rfl _ _ rfl w1 wr A6 n6 c6 _ (by rfl) HT2.out HBQ.out Aq nq cq _ (by rfl) HBq.out (by have h1 := HLEN6.out; have h2 := HM.out; omega) ?_; intro A5 n5 c5 w6 t5 o6; simp only [Act.put, List.setIfInBounds_toArray, List.set_cons_zero, List.set_cons_succ])
          refine ⟨⟨j + 1, A5, n5, c5, by omega, by simp, rfl, ?_⟩, by simp [intOf]; omega⟩
          rw [HTA.out, ← List.append_assoc]
          exact t5
        · obtain rfl : oN = j := by omega
          have hall : outs.take oN = outs := List.take_of_length_le (by have := holen.out; omega)
          rw [hall] at HT2
          have z3 := cell_under HT2.out.below x3
          have hl6 : n6 ≤ 50000000 := by have := HLEN6.out; have := HM.out; omega
          clear ht hall hlen6 hlt hj
          go_wp2_with fail
          refine (reffixed_any wr wr until_ 4 (Below.refl _ _) HU.out.1 (by have := HU.out.2; omega)).mono ?_
          rintro e w8 ⟨A8, n8, c8, rfl, t8, f8⟩
          have HT8 := hide t8.bys
          have HB8 := hide t8.below
          have hl8 : n8 ≤ 8 := by have h1 := t8.len; rw [dig_length] at h1; have h2 : (Rd.within 4).toNat = 4 := rfl; omega
          have HL8 := hide hl8
          have hp8 := hide (show 0 < n8 by have h1 := t8.len; rw [dig_length] at h1; have h2 : (Rd.within 4).toNat = 4 := rfl; omega)
          clear t8 f8 hl8
          go_wp2_with (at_builtin; refine wpList_app rfl _ _ rfl w1 A6 n6 c6 _ (by rfl) (HT2.out.keep HB8.out) A8 n8 c8 _ (by rfl) HT8.out (by have := HL8.out; omega) ?_; intro A9 n9 c9 w9 t9 f9; simp only [Act.put, List.setIfInBounds_toArray, List.set_cons_zero, List.set_cons_succ])
          have T9 := hide (t9.older hb0.out)
          have F9 := hide ((f9 (.inr hp8.out)).older hb0.out)
          go_ret
          have e : ({ version := version, iA := iA, iN := iN, iC := iC, ins := ins, oA := oA, oN := oN, oC := oC, outs := outs, until_ := until_ } : TxV).d.bytes = p1 ++ outs.flatMap (fun a => a.d.bytes) ++ dig until_.toNat (Rd.within 4).toNat := by
            rw [E.out, HP1.out, HP0.out, hilen.out, holen.out]
            rfl
          rw [e]
          exact MinePost.mk T9.out F9.out
end Go.Proofs.Ytbpmcnfmgaolnaa
/-
  The document: Same and Parse of transactions.
-/
namespace Go.Proofs.Ytbpmcnfmgaolnaa
open Go.RowKit

attribute [local go_sem ↓] mkTx_fold loadTx_fold
attribute [local go_sem] mkTx_zero
theorem hstr_of (bs : List Int) : ∃ S, S = ba bs ∧ Hid (∀ (w' : World) (A' : Option Addr) (n' c' : Nat) (xs : List Int), Bys w' A' n' xs → xs = bs → (convert 56 9 (.slice A' n' c')).run Try.prog w' = .ok (.string S) w') :=
  ⟨_, rfl, hide fun w' A' n' c' xs h e => by rw [← e]; exact run_str w' A' n' c' xs h⟩
theorem byt_app {a b : List Int} (ha : Byt a) (hb : Byt b) : Byt (a ++ b) := fun x hx => (List.mem_append.1 hx).elim (ha x) (hb x)
theorem txt_byt {a : List Int} (ha : Byt a) : Byt (txt a) := byt_app (cnt_byt _) ha
theorem RefD.byt {d : RefD} (h : d.Fine) : Byt d.bytes := byt_app h.byt (dig_byt _ _)
theorem InV.byt {w : World} {a : InV} (h : a.Fine w) : Byt a.d.bytes := byt_app (byt_app (RefD.byt h.ref) (txt_byt h.bys.2.1)) (dig_byt _ _)
theorem OutV.byt {w : World} {a : OutV} (h : a.Fine w) : Byt a.d.bytes := byt_app (dig_byt _ _) (txt_byt h.bys.2.1)
theorem TxV.byt {w : World} {t : TxV} (hf : t.Fine w) : Byt t.d.bytes := by
  rw [TxD.bytes_eq]
  have hd : ∀ n k, Byt (dig n k) := dig_byt
  have hi : Byt (t.ins.flatMap fun a => a.d.bytes) := fun x hx => by
    obtain ⟨a, ha, hx⟩ := List.mem_flatMap.1 hx
    have h := hf.ins.2.1 a ha
    exact InV.byt h x hx
  have ho : Byt (t.outs.flatMap fun a => a.d.bytes) := fun x hx => by
    obtain ⟨a, ha, hx⟩ := List.mem_flatMap.1 hx
    have h := hf.outs.2.1 a ha
    exact OutV.byt h x hx
  exact byt_app (byt_app (byt_app (byt_app (byt_app (hd _ _) (cnt_byt _)) hi) (cnt_byt _)) ho) (hd _ _)
set_option maxHeartbeats 4000000 in
set_option maxRecDepth 100000 in
theorem refTSame_any (w : World) (a b : TxV) (ha : a.Fine w) (hb : b.Fine w) (sa : a.Small) (sb : b.Small) :
    Calls Try.prog 58 #[.agg a.cells.toArray, .agg b.cells.toArray] w fun e w' => e = .returned (.bool (decide (a.d.bytes = b.d.bytes))) ∧ Below w.heap.size w w' := by
  obtain ⟨wv, hwv⟩ : ∃ x, x = (w.alloc (.cells a.cells.toArray 37)).alloc (.cells b.cells.toArray 37) := ⟨_, rfl⟩
  have HB0 := hide (show Below w.heap.size w wv by rw [hwv]; exact below_alloc (below_alloc (Below.refl _ _) _) _)
  have TA := hide (show Blk wv w.heap.size 37 a.cells by rw [hwv]; exact (Blk.new w 37 a.cells).alloc _)
  have TB := hide (show Blk wv (w.heap.size + 1) 37 b.cells by rw [hwv]; exact Blk.new1 w _ 37 b.cells)
  have HA := hide (ha.below HB0.out)
  have HB := hide (hb.below HB0.out)
  have E := hide (ba_beq a.d.bytes b.d.bytes (TxV.byt ha) (TxV.byt hb))
  obtain ⟨S, hS, hsa⟩ := hstr_of a.d.bytes
  obtain ⟨T, hT, hsb⟩ := hstr_of b.d.bytes
  rw [← hS, ← hT] at E
  clear hS hT ha hb
  go_enter Try.func58, Try.ntmps58
  go_wp2_with fail
  rw [← hwv]
  clear hwv
  refine wp_region_held_drew (S := fun w' => Below wv.heap.size wv w') (by kernel_rfl) (by exact (Below.refl _ _).drew) (fun hS0 => ?_)
  obtain ⟨wd, hwd⟩ : ∃ x, x = wv.drew := ⟨_, rfl⟩
  rw [← hwd] at hS0 ⊢
  clear hwd
  refine wpAnyH_take (i := 0) (oi := ⟨some 5, .load 37 (.tmp 2), 37, "ref.go:68", #[], none⟩) (v := ?_) rfl (by kernel_rfl) (by kernel_rfl) (by kernel_rfl) (fun _ _ _ h => h) (Or.inl ⟨by rfl, fun w' hSw => ?_⟩) hS0 ?_; rotate_left; focus (have hl := loadTx_run w' w.heap.size 0 a (range_under TA.out.whole hSw); go_simp; try with_reducible rfl)
  simp only [Act.put, List.setIfInBounds_toArray, List.set_cons_zero, List.set_cons_succ]
  refine wpAnyH_take (i := 3) (oi := ⟨some 8, .load 37 (.tmp 3), 37, "ref.go:68", #[], none⟩) (v := ?_) rfl (by kernel_rfl) (by kernel_rfl) (by kernel_rfl) (fun _ _ _ h => h) (Or.inl ⟨by rfl, fun w' hSw => ?_⟩) hS0 ?_; rotate_left; focus (have hl := loadTx_run w' (w.heap.size + 1) 0 b (range_under TB.out.whole hSw); go_simp; try with_reducible rfl)
  simp only [Act.put, List.setIfInBounds_toArray, List.set_cons_zero, List.set_cons_succ]
  refine wpAnyH_ready (rs := [1]) (by kernel_rfl) (by simp) ?_
  refine AllReadyH.cons rfl (fun K hK => ?_) AllReadyH.nil
  go_simp
  refine (refTBytes_any _ a (HA.out.below hS0) sa).mono ?_
  rintro e w4 ⟨A4, n4, c4, rfl, t4, f4⟩
  go_simp
  have HS4 := hide (Below.then_ hS0 t4.below)
  have Y4 := hide t4.bys
  clear t4 f4
  refine hK.out _ _ (HS4.out) (fun _ => ?_)
  clear hK K
  refine wpAnyH_ready (rs := [2, 4]) (by kernel_rfl) (by simp) ?_
  refine AllReadyH.cons rfl (fun K hK => ?_) (AllReadyH.cons rfl (fun K hK => ?_) AllReadyH.nil)
  · have s4 := hsa.out w4 A4 n4 c4 _ Y4.out rfl
    go_simp
    refine hK.out _ _ (HS4.out) (fun _ => ?_)
    clear hK K
    refine wpAnyH_ready (rs := [4]) (by kernel_rfl) (by simp) ?_
    refine AllReadyH.cons rfl (fun K hK => ?_) AllReadyH.nil
    go_simp
    refine (refTBytes_any _ b (HB.out.below HS4.out) sb).mono ?_
    rintro e w5 ⟨A5, n5, c5, rfl, t5, f5⟩
    go_simp
    have HS5 := hide (Below.then_ HS4.out t5.below)
    have t5y := hide t5.bys
    have Y45 := hide (Y4.out.below t5.below)
    clear t5 f5
    refine hK.out _ _ (HS5.out) (fun _ => ?_)
    clear hK K
    refine wpAnyH_ready (rs := [5]) (by kernel_rfl) (by simp) ?_
    refine AllReadyH.cons rfl (fun K hK => ?_) AllReadyH.nil
    have s5 := hsb.out w5 A5 n5 c5 _ t5y.out rfl
    go_simp
    refine hK.out _ _ (HS5.out) (fun _ => ?_)
    clear hK K
    refine wpAnyH_take (i := 6) (oi := ⟨some 11, .binOp .eql 9 (.tmp 7) (.tmp 10) 9, 4, "ref.go:68", #[⟨2, .data⟩, ⟨5, .data⟩], none⟩) (v := ?_) rfl (by kernel_rfl) (by kernel_rfl) (by kernel_rfl) (fun _ _ _ h => h) (Or.inl ⟨by rfl, fun w' hSw => ?_⟩) HS5.out ?_; rotate_left; focus (go_simp; try with_reducible rfl)
    simp only [Act.put, List.setIfInBounds_toArray, List.set_cons_zero, List.set_cons_succ]
    refine wpAnyH_take (i := 7) (oi := ⟨some 4, .assign (.tmp 11), 4, "ref.go:68", #[⟨6, .data⟩, ⟨4, .chain⟩, ⟨0, .phase⟩, ⟨1, .phase⟩, ⟨2, .phase⟩, ⟨3, .phase⟩, ⟨4, .phase⟩, ⟨5, .phase⟩, ⟨6, .phase⟩], none⟩) (v := ?_) rfl (by kernel_rfl) (by kernel_rfl) (by kernel_rfl) (fun _ _ _ h => h) (Or.inl ⟨by rfl, fun w' hSw => ?_⟩) HS5.out ?_; rotate_left; focus (go_simp; try with_reducible rfl)
    simp only [Act.put, List.setIfInBounds_toArray, List.set_cons_zero, List.set_cons_succ]
    refine wpAnyH_done (by kernel_rfl) ?_ _
    go_wp2_with fail
    go_ret
    exact ⟨by rw [← E.out]; rfl, Below.then_ HB0.out HS5.out⟩
  · go_simp
    refine (refTBytes_any _ b (HB.out.below HS4.out) sb).mono ?_
    rintro e w5 ⟨A5, n5, c5, rfl, t5, f5⟩
    go_simp
    have HS5 := hide (Below.then_ HS4.out t5.below)
    have t5y := hide t5.bys
    have Y45 := hide (Y4.out.below t5.below)
    clear t5 f5
    refine hK.out _ _ (HS5.out) (fun _ => ?_)
    clear hK K
    refine wpAnyH_ready (rs := [2, 5]) (by kernel_rfl) (by simp) ?_
    refine AllReadyH.cons rfl (fun K hK => ?_) (AllReadyH.cons rfl (fun K hK => ?_) AllReadyH.nil)
    · have s4 := hsa.out w5 A4 n4 c4 _ Y45.out rfl
      go_simp
      refine hK.out _ _ (HS5.out) (fun _ => ?_)
      clear hK K
      refine wpAnyH_ready (rs := [5]) (by kernel_rfl) (by simp) ?_
      refine AllReadyH.cons rfl (fun K hK => ?_) AllReadyH.nil
      have s5 := hsb.out w5 A5 n5 c5 _ t5y.out rfl
      go_simp
      refine hK.out _ _ (HS5.out) (fun _ => ?_)
      clear hK K
      refine wpAnyH_take (i := 6) (oi := ⟨some 11, .binOp .eql 9 (.tmp 7) (.tmp 10) 9, 4, "ref.go:68", #[⟨2, .data⟩, ⟨5, .data⟩], none⟩) (v := ?_) rfl (by kernel_rfl) (by kernel_rfl) (by kernel_rfl) (fun _ _ _ h => h) (Or.inl ⟨by rfl, fun w' hSw => ?_⟩) HS5.out ?_; rotate_left; focus (go_simp; try with_reducible rfl)
      simp only [Act.put, List.setIfInBounds_toArray, List.set_cons_zero, List.set_cons_succ]
      refine wpAnyH_take (i := 7) (oi := ⟨some 4, .assign (.tmp 11), 4, "ref.go:68", #[⟨6, .data⟩, ⟨4, .chain⟩, ⟨0, .phase⟩, ⟨1, .phase⟩, ⟨2, .phase⟩, ⟨3, .phase⟩, ⟨4, .phase⟩, ⟨5, .phase⟩, ⟨6, .phase⟩], none⟩) (v := ?_) rfl (by kernel_rfl) (by kernel_rfl) (by kernel_rfl) (fun _ _ _ h => h) (Or.inl ⟨by rfl, fun w' hSw => ?_⟩) HS5.out ?_; rotate_left; focus (go_simp; try with_reducible rfl)
      simp only [Act.put, List.setIfInBounds_toArray, List.set_cons_zero, List.set_cons_succ]
      refine wpAnyH_done (by kernel_rfl) ?_ _
      go_wp2_with fail
      go_ret
      exact ⟨by rw [← E.out]; rfl, Below.then_ HB0.out HS5.out⟩
    · have s5 := hsb.out w5 A5 n5 c5 _ t5y.out rfl
      go_simp
      refine hK.out _ _ (HS5.out) (fun _ => ?_)
      clear hK K
      refine wpAnyH_ready (rs := [2]) (by kernel_rfl) (by simp) ?_
      refine AllReadyH.cons rfl (fun K hK => ?_) AllReadyH.nil
      have s4 := hsa.out w5 A4 n4 c4 _ Y45.out rfl
      go_simp
      refine hK.out _ _ (HS5.out) (fun _ => ?_)
      clear hK K
      refine wpAnyH_take (i := 6) (oi := ⟨some 11, .binOp .eql 9 (.tmp 7) (.tmp 10) 9, 4, "ref.go:68", #[⟨2, .data⟩, ⟨5, .data⟩], none⟩) (v := ?_) rfl (by kernel_rfl) (by kernel_rfl) (by kernel_rfl) (fun _ _ _ h => h) (Or.inl ⟨by rfl, fun w' hSw => ?_⟩) HS5.out ?_; rotate_left; focus (go_simp; try with_reducible rfl)
      simp only [Act.put, List.setIfInBounds_toArray, List.set_cons_zero, List.set_cons_succ]
      refine wpAnyH_take (i := 7) (oi := ⟨some 4, .assign (.tmp 11), 4, "ref.go:68", #[⟨6, .data⟩, ⟨4, .chain⟩, ⟨0, .phase⟩, ⟨1, .phase⟩, ⟨2, .phase⟩, ⟨3, .phase⟩, ⟨4, .phase⟩, ⟨5, .phase⟩, ⟨6, .phase⟩], none⟩) (v := ?_) rfl (by kernel_rfl) (by kernel_rfl) (by kernel_rfl) (fun _ _ _ h => h) (Or.inl ⟨by rfl, fun w' hSw => ?_⟩) HS5.out ?_; rotate_left; focus (go_simp; try with_reducible rfl)
      simp only [Act.put, List.setIfInBounds_toArray, List.set_cons_zero, List.set_cons_succ]
      refine wpAnyH_done (by kernel_rfl) ?_ _
      go_wp2_with fail
      go_ret
      exact ⟨by rw [← E.out]; rfl, Below.then_ HB0.out HS5.out⟩
end Go.Proofs.Ytbpmcnfmgaolnaa
