/-
  coin: outputs as bytes; the same output; the document's.
-/
import Derived.Test.YtfloclamdpageaaCoinB
import Derived.Deep.RegionHeldLaw
namespace Go.Proofs.Ytfloclamdpageaa
open Go.RowKit

/-- An append to bytes of one's own, at a step of a region that draws its order. -/
theorem step_app {w : World} {ops : Array Oper} {o : Oper} {a : Act} {K : Act → World → Prop} {Q : Exit → Act → World → Prop} {E : Prop} (hgd : o.guard = none) (d : Nat) (hd : o.dst = some d) (s x : Operand)
    (ho : o.op = .call { callee := .builtin .append, args := #[s, x], argTypes := #[22, 22] })
    (w0 : World) (A : Option Addr) (n c : Nat) (bs : List Int) (hs : a.eval s = .slice A n c) (h : Mine 5 w0 w A n c bs) (B : Option Addr) (m c' : Nat) (cs : List Int) (hx : a.eval x = .slice B m c') (hB : Bys w B m cs) (hlen : n + m ≤ 140737488355328)
    (hK : ∀ A' n' c' w', Mine 5 w0 w' A' n' c' (bs ++ cs) → FrStep w0 A m A' → K (a.put (some d) (.slice A' n' c')) w') :
    if Region.wanted o (yielded ops a.tmps) = true then Oper.wp Try.prog o a w K Q else E := by
  rw [← hd] at hK
  obtain ⟨i, z, hi, hz, hs1, hby, hzs⟩ := u8_info
  obtain ⟨h0, rfl, G, h1, h2⟩ := h
  refine step_append_tail hgd s x 22 ho 5 i z Try.underlying22 hi hz hs1 hby hzs _ bs G hs h1 B m c' cs hx hB hlen fun A' c2 G' w' t' o' g' k' => ?_
  have hG : ∀ i, G' i → w0.heap.size ≤ i := fun i hi => by
    rcases g' i hi with h | h
    · exact h2 i h
    · exact Nat.le_trans h0.size h
  refine hK A' _ c2 w' ⟨h0.trans (o'.below h0.size (fun i hi hg => by have := h2 i hg; omega)), by rw [List.length_append, hB.1], G', t', hG⟩ fun hF => ?_
  rcases k' with ⟨hm, e1⟩ | hk
  · injection e1 with e1 _ _
    subst e1
    rcases hF with hF | hF
    · exact hF
    · omega
  · intro ad e1
    subst e1
    exact hG _ (hk ad.block rfl)

theorem below_alloc {w v : World} (h : Below w.heap.size w v) (o : Obj) : Below w.heap.size w (v.alloc o) := Below.then_ h ((Below.refl _ v).alloc (Nat.le_refl _) o)
theorem below_drew {w v : World} (h : Below w.heap.size w v) : Below w.heap.size w v.drew := h.drew
theorem Byss.one (w w1 : World) (e : TypeId) (A : Option Addr) (n c : Nat) (x : List Int) (h : Bys w A n x) (hc : n ≤ c) (hb : Below w.heap.size w w1) : Byss (w1.alloc (.cells #[.slice A n c] e)) (some ⟨w1.heap.size, 0, none⟩) 1 [x] := by
  refine ⟨rfl, fun _ => ⟨w1.heap.size, 0, rfl, fun j xs hj => ?_⟩⟩
  rcases j with _ | j
  · simp at hj; subst hj
    exact ⟨A, n, c, by rw [Nat.zero_add]; exact (Blk.new w1 e [.slice A n c]).c0, (h.below hb).alloc _, hc⟩
  · simp at hj
theorem u64_wrap (v : Int) : IntKind.u64.wrap v = u64 v := by rw [IntKind.wrap_u64]; rfl
theorem txt_len (b : List Int) : (txt b).length ≤ b.length + 9 := by
  have := (cnt_length b.length).2
  rw [txt, List.length_append]
  omega
theorem text_one (b x : List Int) : b ++ [x].flatMap txt = b ++ txt x := by simp
set_option maxHeartbeats 4000000 in
set_option maxRecDepth 100000 in
theorem OutBytes_any (w : World) (o : OutV) (hf : o.Fine w) (hl : o.n ≤ 1000000) :
    Calls Try.prog 27 #[.agg #[.int .i64 o.v, .slice o.A o.n o.c]] w (MinePost 5 w none o.d.bytes) := by
  obtain ⟨v, A, n, c, bs⟩ := o
  obtain ⟨hv, hB, hc⟩ := hf
  simp only at hv hB hc hl
  have hu := u64_wrap v
  have hU := u64_U64 v
  have hln := hide (show bs.length ≤ 1000000 by rw [hB.1]; exact hl)
  have E : Hid ((⟨v, A, n, c, bs⟩ : OutV).d.bytes = dig (u64 v).toNat 8 ++ [bs].flatMap txt) := hide (by simp [OutV.d, OutD.bytes])
  have W8 : Hid ((Rd.within 8).toNat = 8) := hide (by decide)
  have hb0 : Below w.heap.size w (w.alloc (.cells #[.int .i64 v, .slice A n c] 24)) := below_alloc (Below.refl _ _) _
  have BX := Blk.new w 24 [.int .i64 v, .slice A n c]
  have k0 := BX.c0
  have k1 := BX.c1
  have HX0 := Byss.one w _ 22 A n c bs hB hc hb0
  rw [World.size_alloc] at HX0
  have HX := hide HX0
  clear HX0
  have HBX := hide BX
  clear BX
  go_enter Try.func27, Try.ntmps27
  go_wp2_with fail
  go_region_held (fun w' => w'.cell? ⟨w.heap.size, 0, none⟩ = some (.int .i64 v) ∧ w'.cell? ⟨w.heap.size, 1, none⟩ = some (.slice A n c))
    (first | exact ⟨k0, k1⟩ | exact ⟨(HBX.out.alloc _).c0, (HBX.out.alloc _).c1⟩ | exact ⟨(HB3.out.alloc _).c0, (HB3.out.alloc _).c1⟩)
    (first
      | (go_at_call 63; refine (Fixed_any _ _ none 0 0 [] (u64 v) 8 (Below.refl _ _) (Bys.nil _ _) hU.1 hU.2 (by decide)).mono ?_; rintro e w3 ⟨A3, n3, c3, rfl, t3, f3⟩; have hb3 : Below w.heap.size w w3 := Below.then_ (by first | exact below_drew hb0 | exact below_drew (below_alloc hb0 _) | exact hb0 | exact below_alloc hb0 _ | exact below_drew (below_drew (below_alloc hb0 _))) t3.below; have HB3 : Hid (Blk w3 w.heap.size 24 [.int .i64 v, .slice A n c]) := hide (Blk.under (by first | exact HBX.out | exact HBX.out.alloc _) t3.below); have k0 := HB3.out.c0; have k1 := HB3.out.c1; have hl3 : n3 ≤ 1000000000 := (by have e1 := t3.len; rw [W8.out, List.nil_append, dig_length] at e1; omega))
      | (go_at_call 64; refine (Text_any _ _ A3 n3 c3 _ _ 1 1 [bs] (Below.refl _ _) (by first | exact t3.bys | exact t3.bys.alloc _) (by first | exact Byss.one w w3 22 A n c bs hB hc hb3 | exact HX.out.below t3.below | exact (HX.out.below ((Below.refl _ _).drew)).below t3.below) hl3 (by decide) (by intro x hx; simp at hx; subst hx; exact hln.out)).mono ?_; rintro e w4 ⟨A4, n4, c4, rfl, t4, f4⟩; have hb4 : Below w.heap.size w w4 := Below.then_ (by first | exact below_drew hb3 | exact below_drew (below_alloc hb3 _) | exact hb3 | exact below_alloc hb3 _ | exact below_drew (below_drew (below_alloc hb3 _))) t4.below; have k0 : w4.cell? ⟨w.heap.size, 0, none⟩ = some (.int .i64 v) := cell_under t4.below (by first | exact HB3.out.c0 | exact (HB3.out.alloc _).c0); have k1 : w4.cell? ⟨w.heap.size, 1, none⟩ = some (.slice A n c) := cell_under t4.below (by first | exact HB3.out.c1 | exact (HB3.out.alloc _).c1)))
  all_goals
    go_wp2
    go_ret
    rw [E.out, ← W8.out]
    first
    | exact MinePost.mk (by rw [← List.nil_append (dig _ _)]; exact t4.older hb3) ((f4 (Fr.none _)).older hb3)
    | exact MinePost.mk (by rw [← List.nil_append (dig _ _)]; exact t4.older (below_alloc hb3 _)) ((f4 (Fr.none _)).older (below_alloc hb3 _))
    | exact MinePost.mk (by rw [← List.nil_append (dig _ _)]; exact t4.older (below_drew hb3)) ((f4 (Fr.none _)).older (below_drew hb3))
set_option maxHeartbeats 4000000 in
set_option maxRecDepth 100000 in
theorem refOutBytes_any (w : World) (o : OutV) (hf : o.Fine w) (hl : o.n ≤ 1000000) :
    Calls Try.prog 29 #[.agg #[.int .i64 o.v, .slice o.A o.n o.c]] w (MinePost 5 w none o.d.bytes) := by
  obtain ⟨v, A, n, c, bs⟩ := o
  obtain ⟨hv, hB, hc⟩ := hf
  simp only at hv hB hc hl
  have hu := u64_wrap v
  have hU := u64_U64 v
  have hln := hide (show bs.length ≤ 1000000 by rw [hB.1]; exact hl)
  have E : Hid ((⟨v, A, n, c, bs⟩ : OutV).d.bytes = dig (u64 v).toNat 8 ++ txt bs) := hide (by simp [OutV.d, OutD.bytes])
  have W8 : Hid ((Rd.within 8).toNat = 8) := hide (by decide)
  have hb0 : Below w.heap.size w (w.alloc (.cells #[.int .i64 v, .slice A n c] 24)) := below_alloc (Below.refl _ _) _
  have BX := Blk.new w 24 [.int .i64 v, .slice A n c]
  have k0 := BX.c0
  have k1 := BX.c1
  have HBX := hide BX
  have HL : Hid (n ≤ 1000000) := hide hl
  clear BX hl
  have HB := hide hB
  clear hB
  go_enter Try.func29, Try.ntmps29
  go_wp2_with fail
  go_region_held_law (fun w' => w'.cell? ⟨w.heap.size, 0, none⟩ = some (.int .i64 v) ∧ w'.cell? ⟨w.heap.size, 1, none⟩ = some (.slice A n c))
    (exact ⟨k0, k1⟩)
    (first
      | (go_at_call 65; refine (reffixed_any _ _ (u64 v) 8 (Below.refl _ _) hU.1 hU.2).mono ?_; rintro e w3 ⟨A3, n3, c3, rfl, t3, f3⟩; have hb3 : Below w.heap.size w w3 := Below.then_ (by first | exact hb0 | exact below_drew hb0) t3.below; have HB3 : Hid (Blk w3 w.heap.size 24 [.int .i64 v, .slice A n c]) := hide (Blk.under (by exact HBX.out) t3.below); have k0 := HB3.out.c0; have k1 := HB3.out.c1)
      | (go_at_call 66; refine (reftext_any _ _ A n c bs (Below.refl _ _) (HB.out.below hb3) (by have := HL.out; omega)).mono ?_; rintro e w4 ⟨A4, n4, c4, rfl, t4, f4⟩; have hb4 : Below w.heap.size w w4 := Below.then_ hb3 t4.below; have k0 : w4.cell? ⟨w.heap.size, 0, none⟩ = some (.int .i64 v) := cell_under t4.below HB3.out.c0; have k1 : w4.cell? ⟨w.heap.size, 1, none⟩ = some (.slice A n c) := cell_under t4.below HB3.out.c1)
      | (refine step_app (by rfl) _ (by rfl) _ _ (by rfl) _ A3 n3 c3 _ (by rfl) (t3.keep t4.below) A4 n4 c4 _ (by rfl) t4.bys (by have e1 := t3.len; have e2 := t4.len; have e3 := HL.out; have e4 := HB.out.1; rw [W8.out, dig_length] at e1; have e5 := txt_len bs; omega) ?_; intro A5 n5 c5 w5 t5 f5; have hb5 : Below w.heap.size w w5 := Below.then_ (by first | exact hb0 | exact below_drew hb0) t5.below; have k0 : w5.cell? ⟨w.heap.size, 0, none⟩ = some (.int .i64 v) := cell_under t5.below (by exact HBX.out.c0); have k1 : w5.cell? ⟨w.heap.size, 1, none⟩ = some (.slice A n c) := cell_under t5.below (by exact HBX.out.c1)))
  all_goals
    go_wp2
    go_ret
    rw [E.out, ← W8.out]
    first
    | exact MinePost.mk (t5.older hb0) (by intro ad hA5; exact (f5 (.inl (f3 (Fr.none _))) ad hA5) |> Nat.le_trans hb0.size)
    | exact MinePost.mk (t5.older (below_drew hb0)) (by intro ad hA5; exact (f5 (.inl (f3 (Fr.none _))) ad hA5) |> Nat.le_trans hb0.size)
end Go.Proofs.Ytfloclamdpageaa
