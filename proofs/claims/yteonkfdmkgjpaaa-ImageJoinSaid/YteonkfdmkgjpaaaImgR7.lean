/- Contracts of the reference of layer 23: Invert, the walk. -/
import Derived.Test.YteonkfdmkgjpaaaImgR6
import Derived.Deep.RegionHeld3
import Derived.Deep.DeepCutAuto
import Derived.BigQuiet
import Derived.Deep.QuietTactic
import Derived.BigRegion
import Derived.Deep.CutBlock
namespace Go.Proofs.Yteonkfdmkgjpaaa
open Go.RowKit
set_option linter.unusedVariables false
set_option linter.unusedSimpArgs false

theorem own_slice {w : World} {base size n : Nat} {e : TypeId} {v : Value} {xs : List Value} (h : w.ownsRow base e size v n xs) : ∃ A c, v = .slice A n c := by
  obtain ⟨hl, ⟨rfl, hn⟩ | ⟨g, cap, cur, rfl, hb, hg, hcap, hmax, hsz, htk⟩⟩ := h
  · exact ⟨none, 0, by rw [hn]⟩
  · exact ⟨_, _, rfl⟩
theorem CRow.setFar {W : World} {base : Nat} {v : Value} {ls : List Ins} (h : CRow W base v ls) (p : Addr) (hne : ∀ k, v.ownBlock = some k → k ≠ p.block) (u : Value) : CRow (W.setCell p u) base v ls := by
  obtain ⟨h1, hn | ⟨g, cap, cur, rfl, hb, hg, rest⟩⟩ := h
  · exact ⟨h1, .inl hn⟩
  · exact ⟨h1, .inr ⟨g, cap, cur, rfl, hb, (Below.heap_setCell W p u g (hne g rfl)).trans hg, rest⟩⟩
set_option maxHeartbeats 16000000 in
set_option maxRecDepth 100000 in
theorem rinvert_any (l : List Ins) (A : Option Addr) (cap : Nat) (mem st : Int) (w : World) (hn0 : l.length ≤ 65536) (hok : OpsOk l) (hc : CodeAt w A l) (hv : Img.valid l mem st = true) :
    Calls Try.prog 23 #[.agg #[.slice A l.length cap, .int .i64 mem, .int .i64 st]] w fun e w' => ∃ A' cap', e = .returned (.agg #[.slice A' l.length cap', .int .i64 mem, .int .i64 st]) ∧ Below w.heap.size w w' ∧ CodeAt w' A' (Img.invert l) := by
  have hck : (Img.check l mem st).2 = 0 := by unfold Img.valid at hv; simpa using hv
  have Hca := Lib.hid (fun i (hi : i < l.length) => Img.ref_cases ((Img.check_zero hck).2 i hi))
  clear hck hv
  have hIp := Lib.hid (Img.invP_all l)
  obtain ⟨i0, hi, hz0, hz1, hz2⟩ := info_parts info_instr
  go_enter Try.func23, Try.ntmps23
  go_upto_region 2 with fail
  have hS := ((((St.start w).alloc #[.slice A l.length cap, .int .i64 mem, .int .i64 st] 24).alloc #[.slice none 0 0, .int .i64 0, .int .i64 0] 24).alloc #[.slice none 0 0, .int .i64 mem, .int .i64 st] 24)
  simp only [World.size_alloc] at hS
  generalize (((w.alloc (.cells #[.slice A l.length cap, .int .i64 mem, .int .i64 st] 24)).alloc (.cells #[.slice none 0 0, .int .i64 0, .int .i64 0] 24)).alloc (.cells #[.slice none 0 0, .int .i64 mem, .int .i64 st] 24)) = w1 at *
  obtain ⟨m0, m1, m2, -⟩ := Blk.cells3 hS.b3
  go_wp2
  clear m0 m1 m2
  obtain ⟨wo, hwo⟩ : ∃ wo : World, wo = w1 := ⟨_, rfl⟩
  go_loopw [5] (fun s5 wr => ∃ s : Nat, s5 = .int .i64 ((s : Int) - 1) ∧ RefRel l w A cap mem st s wr) (fun s5 _ => (intOf s5 + 1).toNat)
  case atStart => exact ⟨l.length, rfl, Nat.le_refl _, _, hS, by rw [Nat.sub_self]; exact World.ownsRow_nil _ _ _ _⟩
  case round =>
    clear hS hwo
    obtain ⟨s, rfl, hs, v, hS, hown⟩ := hrel
    cases s with
    | zero =>
      rw [show ((0 : Nat) : Int) - 1 = -1 from rfl]
      rw [Nat.sub_zero, hIp.out] at hown
      obtain ⟨o0, o1, o2, -⟩ := Blk.cells3 hS.b1
      obtain ⟨r0, r1, r2, rf0, rf1, rf2⟩ := Blk.cells3 hS.b2
      obtain ⟨A', cap', rfl, hcA⟩ := code_of_own hown
      have hS6 := (hS.sub (L' := [(w.heap.size + 1, 24, #[.slice none 0 0, .int .i64 0, .int .i64 0])]) (by intro x hx; simp at hx; subst hx; simp)).put3 (by omega) (by intro y hy; simp at hy) (.slice A' (Img.invert l).length cap') (.int .i64 mem) (.int .i64 st)
      have hcB2 : CodeAt (set3 wr (w.heap.size + 1) (.slice A' (Img.invert l).length cap') (.int .i64 mem) (.int .i64 st)) A' (Img.invert l) := by
        have h2 := ((CRow.setCell hown ⟨w.heap.size + 1, 0, none⟩ (.inl (by simp)) (.slice A' (Img.invert l).length cap')).setCell ⟨w.heap.size + 1, 1, none⟩ (.inl (by simp)) (.int .i64 mem)).setCell ⟨w.heap.size + 1, 2, none⟩ (.inl (by simp)) (.int .i64 st)
        obtain ⟨A2, c2, he, h3⟩ := code_of_own h2
        injection he with he1 he2 he3
        subst he1
        exact h3
      rw [Img.invert_length] at hS6 hcB2 o0
      clear hS hown hcA
      go_wp2
      refine bodyPost_ret (results_cell_row rfl _ _ (w.heap.size + 1) 24 _ (0, 0) _ rfl hS6.b1 Try.underlying24 rfl (by kernel_rfl)) rfl ?_
      exact ⟨A', ⟨cap', rfl⟩, hS6.1, hcB2⟩
    | succ i =>
      rw [show ((i + 1 : Nat) : Int) - 1 = (i : Int) from by omega]
      have hil : i < l.length := hs
      have hca := Hca.out i hil
      have h0 := hok i hil
      obtain ⟨b, o, rfl, hcB⟩ := hc (by omega)
      have hcW := CodeB.after hS.1 hcB
      have hb := hcW.1
      obtain ⟨x0, x1, x2, x3, x4⟩ := hcW.2 i hil
      obtain ⟨m0, m1, m2, -⟩ := Blk.cells3 hS.b3
      have Hca2 := Lib.hid hca
      have HI := Lib.hid (fun wx => rinverse_any (Img.at_ l i).op h0 wx)
      clear hcW hca h0
      go_upto_region 7 with fail
      have hS2 := hS.alloc #[.int .u8 (Img.at_ l i).op, .int .i64 (Img.at_ l i).a, .int .i64 (Img.at_ l i).b, .int .i64 (Img.at_ l i).c, .int .i64 (Img.at_ l i).d] 38
      have hown2 := hown.alloc (.cells #[.int .u8 (Img.at_ l i).op, .int .i64 (Img.at_ l i).a, .int .i64 (Img.at_ l i).b, .int .i64 (Img.at_ l i).c, .int .i64 (Img.at_ l i).d] 38)
      have l1 := hS.b1.lt
      have hgo := Lib.hid (show ∀ k, v.ownBlock = some k → k ≠ wr.heap.size from fun k hk => by have := (World.ownsRow.lt hown k hk).2; omega)
      generalize (wr.alloc (.cells #[.int .u8 (Img.at_ l i).op, .int .i64 (Img.at_ l i).a, .int .i64 (Img.at_ l i).b, .int .i64 (Img.at_ l i).c, .int .i64 (Img.at_ l i).d] 38)) = w3 at *
      generalize wr.heap.size = g at *
      clear x0 x1 x2 x3 x4 m0 m1 m2 hS hown hb
      obtain ⟨x0, x1, x2, x3, x4, xf0, xf1, xf2, xf3, xf4⟩ := Blk.cells5 hS2.b1
      go_upto_region 8 with (first | (go_at_call 47; refine (HI.out _).mono ?_; rintro e wi ⟨rfl, hB⟩; have hS3 := St.call hB hS2; have hown3 := CRow.below hown2 hB; obtain ⟨x0, x1, x2, x3, x4, xf0, xf1, xf2, xf3, xf4⟩ := Blk.cells5 hS3.b1))
      have hgb : w.heap.size + 2 < g := l1
      have hLy := Lib.hid (show ∀ y ∈ [(w.heap.size + 2, 24, #[v, .int .i64 mem, .int .i64 st]), (w.heap.size + 1, 24, #[.slice none 0 0, .int .i64 0, .int .i64 0]), (w.heap.size, 24, #[.slice (some ⟨b, o, none⟩) l.length cap, .int .i64 mem, .int .i64 st])], y.1 ≠ g from (by intro y hy; simp at hy; rcases hy with rfl | rfl | rfl <;> simp <;> omega))
      have hS5 : St w ((g, 38, #[.int .u8 (Isa.inv (Img.at_ l i).op), .int .i64 (Img.at_ l i).a, .int .i64 (Img.at_ l i).b, .int .i64 (Img.at_ l i).c, .int .i64 (Img.at_ l i).d]) :: [(w.heap.size + 2, 24, #[v, .int .i64 mem, .int .i64 st]), (w.heap.size + 1, 24, #[.slice none 0 0, .int .i64 0, .int .i64 0]), (w.heap.size, 24, #[.slice (some ⟨b, o, none⟩) l.length cap, .int .i64 mem, .int .i64 st])]) (wi.setCell ⟨g, 0, none⟩ (.int .u8 (Isa.inv (Img.at_ l i).op))) := hS3.set1 (by omega) hLy.out 0 (.int .u8 (Isa.inv (Img.at_ l i).op))
      have hown5 := CRow.setFar hown3 ⟨g, 0, none⟩ hgo.out (.int .u8 (Isa.inv (Img.at_ l i).op))
      generalize wi.setCell ⟨g, 0, none⟩ (.int .u8 (Isa.inv (Img.at_ l i).op)) = w5 at *
      clear hS3 hown3 hS2 hown2 hB HI x0 x1 x2 x3 x4 xf0 xf1 xf2 xf3 xf4
      obtain ⟨x0, x1, x2, x3, x4, xf0, xf1, xf2, xf3, xf4⟩ := Blk.cells5 hS5.b1; obtain ⟨m0, m1, m2, -⟩ := Blk.cells3 hS5.b4
      have hca := Hca2.out
      rw [show Img.rt (Img.inv (Img.at_ l i)) = Img.rt ⟨(Isa.inv (Img.at_ l i).op), (Img.at_ l i).a, (Img.at_ l i).b, (Img.at_ l i).c, (Img.at_ l i).d⟩ from rfl] at hca
      have HT := Lib.hid (fun wx => rtgt_any ⟨(Isa.inv (Img.at_ l i).op), (Img.at_ l i).a, (Img.at_ l i).b, (Img.at_ l i).c, (Img.at_ l i).d⟩ wx)
      have HIA : Hid (Img.invAt l i = Img.invAt l i) := Lib.hid rfl
      generalize Img.rt ⟨(Isa.inv (Img.at_ l i).op), (Img.at_ l i).a, (Img.at_ l i).b, (Img.at_ l i).c, (Img.at_ l i).d⟩ = tr at *
      generalize Isa.inv (Img.at_ l i).op = op at *
      generalize (Img.at_ l i).a = xa at *
      generalize (Img.at_ l i).b = xb at *
      generalize (Img.at_ l i).c = xc at *
      generalize (Img.at_ l i).d = xd at *
      clear Hca2 Hca hIp
      rcases hca with ⟨ho, ha0, ha1, q, hq, hY⟩ | ⟨ho, ht, hoo, ha0, ha1, hY⟩ | ⟨ho, ht, hoo, hb0, hb1, hY⟩ | ⟨ho, ht, hY⟩
      · obtain ⟨k, rfl⟩ : ∃ k : Nat, xa = (k : Int) := ⟨xa.toNat, by omega⟩
        have hkl : k < l.length := by omega
        have hql := (Img.partner_lt hq).2
        have HP := Lib.hid (fun wx h => rpartner_in l b o cap k wx hkl hok h)
        rw [Int.toNat_natCast] at hq
        rw [hq, show Img.num1 (some q) = (q : Int) from rfl] at HP
        have HY := Lib.hid hY.symm
        have hoo : (op == 30) = true ∨ ((op == 30) = false ∧ (op == 31) = true) := by
          cases h : (op == 30)
          · rw [h] at ho; exact Or.inr ⟨rfl, ho⟩
          · exact Or.inl rfl
        clear hq hY ho
        rcases hoo with o30 | ⟨o30, o31⟩
        all_goals
          go_upto_region 14 with (go_at_call 35; refine (HP.out _ (CodeB.after hS5.1 hcB)).mono ?_; rintro e wt ⟨rfl, hB⟩; replace hS5 := St.call hB hS5; replace hown5 := CRow.below hown5 hB; obtain ⟨x0, x1, x2, x3, x4, xf0, xf1, xf2, xf3, xf4⟩ := Blk.cells5 hS5.b1; obtain ⟨m0, m1, m2, -⟩ := Blk.cells3 hS5.b4)
          have hS9 : St w ((g, 38, #[.int .u8 op, .int .i64 ((l.length : Int) - 1 - q), .int .i64 xb, .int .i64 xc, .int .i64 xd]) :: [(w.heap.size + 2, 24, #[v, .int .i64 mem, .int .i64 st]), (w.heap.size + 1, 24, #[.slice none 0 0, .int .i64 0, .int .i64 0]), (w.heap.size, 24, #[.slice (some ⟨b, o, none⟩) l.length cap, .int .i64 mem, .int .i64 st])]) (wt.setCell ⟨g, 1, none⟩ (.int .i64 ((l.length : Int) - 1 - q))) := hS5.set1 (by omega) hLy.out 1 (.int .i64 ((l.length : Int) - 1 - q))
          have hown9 := CRow.setFar hown5 ⟨g, 1, none⟩ hgo.out (.int .i64 ((l.length : Int) - 1 - q))
          generalize wt.setCell ⟨g, 1, none⟩ (.int .i64 ((l.length : Int) - 1 - q)) = w9 at *
          clear hS5 hown5 x0 x1 x2 x3 x4 xf0 xf1 xf2 xf3 xf4 m0 m1 m2 hB
          obtain ⟨x0, x1, x2, x3, x4, xf0, xf1, xf2, xf3, xf4⟩ := Blk.cells5 hS9.b1; obtain ⟨m0, m1, m2, mf0, mf1, mf2⟩ := Blk.cells3 hS9.b2; have l9 := hS9.b1.lt
          have Q1 := Lib.hid (show (Img.invP l (l.length - (i + 1))).length + 1 ≤ maxLen by rw [Img.invP_length]; unfold maxLen; omega)
          have Q2 := Lib.hid (show ((Img.invP l (l.length - (i + 1))).length + 1) * 40 ≤ 140737488355328 by rw [Img.invP_length]; omega)
          have Q3 := Lib.hid (show ∀ o : Obj, w.heap.size + 3 ≤ (w9.alloc o).heap.size from fun o => by simp; omega)
          have Q4 := Lib.hid (show ∀ u ∈ ([.int .u8 op, .int .i64 ((l.length : Int) - 1 - q), .int .i64 xb, .int .i64 xc, .int .i64 xd] : List Value), u.oneCell' = true from ins_oneCell ⟨op, ((l.length : Int) - 1 - q), xb, xc, xd⟩)
          have Q5 := Lib.hid (show ∀ j u, ([.int .u8 op, .int .i64 ((l.length : Int) - 1 - q), .int .i64 xb, .int .i64 xc, .int .i64 xd] : List Value)[j]? = some u → (w9.alloc (.cells #[.int .u8 op, .int .i64 ((l.length : Int) - 1 - q), .int .i64 xb, .int .i64 xc, .int .i64 xd] 38)).cell? ((⟨w9.heap.size, 0, none⟩ : Addr).add j) = some u from cells5_from (Blk.new _ _ _))
          go_wp2_with (at_builtin; refine wpList_append_own _ rfl _ _ 22 rfl (w.heap.size + 3) 38 i0 (.agg #[.int .u8 0, .int .i64 0, .int .i64 0, .int .i64 0, .int .i64 0]) 5 40 Try.underlying22 hi hz0 hz1 hz2 rfl (by decide) _ _ _ rfl (hown9.alloc _) ⟨w9.heap.size, 0, none⟩ 1 1 [.int .u8 op, .int .i64 ((l.length : Int) - 1 - q), .int .i64 xb, .int .i64 xc, .int .i64 xd] rfl rfl Q5.out Q4.out Q1.out Q2.out (Q3.out _) ?_)
          intro v' w10 hownA hgrow _
          have hSA := ref_grown (b := 0) (o := 0) hS9 hown9 hgrow
          clear hgrow hS9 hown9 x0 x1 x2 x3 x4 xf0 xf1 xf2 xf3 xf4 m0 m1 m2 mf0 mf1 mf2 l9 Q1 Q2 Q3 Q4 Q5
          obtain ⟨o0, o1, o2, of0, of1, of2⟩ := Blk.cells3 hSA.b1
          obtain ⟨A9, c9, rfl⟩ := own_slice hownA
          go_wp2
          go_roundw
          case rel => exact ⟨i, rfl, ref_round hil HY.out hSA hownA rfl⟩
          case measure => simp [intOf] <;> omega
      · have HY := Lib.hid hY.symm
        obtain ⟨o30, o31⟩ := Bool.or_eq_false_iff.1 ho
        have hoo : (op == 22) = true ∨ ((op == 22) = false ∧ (op == 25) = true) ∨ ((op == 22) = false ∧ (op == 25) = false ∧ (op == 32) = true) ∨ ((op == 22) = false ∧ (op == 25) = false ∧ (op == 32) = false ∧ (op == 33) = true) := by
          cases h1 : (op == 22) <;> cases h2 : (op == 25) <;> cases h3 : (op == 32) <;> simp [h1, h2, h3] at hoo ⊢ <;> (first | exact hoo | skip)
        clear hY ho
        rcases hoo with o22 | ⟨o22, o25⟩ | ⟨o22, o25, o32⟩ | ⟨o22, o25, o32, o33⟩
        all_goals
          go_upto_region 14 with (go_at_call 48; refine (HT.out _).mono ?_; rintro e wt ⟨rfl, hB⟩; replace hS5 := St.call hB hS5; replace hown5 := CRow.below hown5 hB; obtain ⟨x0, x1, x2, x3, x4, xf0, xf1, xf2, xf3, xf4⟩ := Blk.cells5 hS5.b1; obtain ⟨m0, m1, m2, -⟩ := Blk.cells3 hS5.b4)
          have hS9 : St w ((g, 38, #[.int .u8 op, .int .i64 ((l.length : Int) - 1 - xa), .int .i64 xb, .int .i64 xc, .int .i64 xd]) :: [(w.heap.size + 2, 24, #[v, .int .i64 mem, .int .i64 st]), (w.heap.size + 1, 24, #[.slice none 0 0, .int .i64 0, .int .i64 0]), (w.heap.size, 24, #[.slice (some ⟨b, o, none⟩) l.length cap, .int .i64 mem, .int .i64 st])]) (wt.setCell ⟨g, 1, none⟩ (.int .i64 ((l.length : Int) - 1 - xa))) := hS5.set1 (by omega) hLy.out 1 (.int .i64 ((l.length : Int) - 1 - xa))
          have hown9 := CRow.setFar hown5 ⟨g, 1, none⟩ hgo.out (.int .i64 ((l.length : Int) - 1 - xa))
          generalize wt.setCell ⟨g, 1, none⟩ (.int .i64 ((l.length : Int) - 1 - xa)) = w9 at *
          clear hS5 hown5 x0 x1 x2 x3 x4 xf0 xf1 xf2 xf3 xf4 m0 m1 m2 hB
          obtain ⟨x0, x1, x2, x3, x4, xf0, xf1, xf2, xf3, xf4⟩ := Blk.cells5 hS9.b1; obtain ⟨m0, m1, m2, mf0, mf1, mf2⟩ := Blk.cells3 hS9.b2; have l9 := hS9.b1.lt
          have Q1 := Lib.hid (show (Img.invP l (l.length - (i + 1))).length + 1 ≤ maxLen by rw [Img.invP_length]; unfold maxLen; omega)
          have Q2 := Lib.hid (show ((Img.invP l (l.length - (i + 1))).length + 1) * 40 ≤ 140737488355328 by rw [Img.invP_length]; omega)
          have Q3 := Lib.hid (show ∀ o : Obj, w.heap.size + 3 ≤ (w9.alloc o).heap.size from fun o => by simp; omega)
          have Q4 := Lib.hid (show ∀ u ∈ ([.int .u8 op, .int .i64 ((l.length : Int) - 1 - xa), .int .i64 xb, .int .i64 xc, .int .i64 xd] : List Value), u.oneCell' = true from ins_oneCell ⟨op, ((l.length : Int) - 1 - xa), xb, xc, xd⟩)
          have Q5 := Lib.hid (show ∀ j u, ([.int .u8 op, .int .i64 ((l.length : Int) - 1 - xa), .int .i64 xb, .int .i64 xc, .int .i64 xd] : List Value)[j]? = some u → (w9.alloc (.cells #[.int .u8 op, .int .i64 ((l.length : Int) - 1 - xa), .int .i64 xb, .int .i64 xc, .int .i64 xd] 38)).cell? ((⟨w9.heap.size, 0, none⟩ : Addr).add j) = some u from cells5_from (Blk.new _ _ _))
          go_wp2_with (at_builtin; refine wpList_append_own _ rfl _ _ 22 rfl (w.heap.size + 3) 38 i0 (.agg #[.int .u8 0, .int .i64 0, .int .i64 0, .int .i64 0, .int .i64 0]) 5 40 Try.underlying22 hi hz0 hz1 hz2 rfl (by decide) _ _ _ rfl (hown9.alloc _) ⟨w9.heap.size, 0, none⟩ 1 1 [.int .u8 op, .int .i64 ((l.length : Int) - 1 - xa), .int .i64 xb, .int .i64 xc, .int .i64 xd] rfl rfl Q5.out Q4.out Q1.out Q2.out (Q3.out _) ?_)
          intro v' w10 hownA hgrow _
          have hSA := ref_grown (b := 0) (o := 0) hS9 hown9 hgrow
          clear hgrow hS9 hown9 x0 x1 x2 x3 x4 xf0 xf1 xf2 xf3 xf4 m0 m1 m2 mf0 mf1 mf2 l9 Q1 Q2 Q3 Q4 Q5
          obtain ⟨o0, o1, o2, of0, of1, of2⟩ := Blk.cells3 hSA.b1
          obtain ⟨A9, c9, rfl⟩ := own_slice hownA
          go_wp2
          go_roundw
          case rel => exact ⟨i, rfl, ref_round hil HY.out hSA hownA rfl⟩
          case measure => simp [intOf] <;> omega
      · have HY := Lib.hid hY.symm
        obtain ⟨o30, o31⟩ := Bool.or_eq_false_iff.1 ho
        obtain ⟨hoo, o33⟩ := Bool.or_eq_false_iff.1 hoo
        obtain ⟨hoo, o32⟩ := Bool.or_eq_false_iff.1 hoo
        obtain ⟨o22, o25⟩ := Bool.or_eq_false_iff.1 hoo
        clear hY ho hoo
        go_upto_region 14 with (go_at_call 48; refine (HT.out _).mono ?_; rintro e wt ⟨rfl, hB⟩; replace hS5 := St.call hB hS5; replace hown5 := CRow.below hown5 hB; obtain ⟨x0, x1, x2, x3, x4, xf0, xf1, xf2, xf3, xf4⟩ := Blk.cells5 hS5.b1; obtain ⟨m0, m1, m2, -⟩ := Blk.cells3 hS5.b4)
        have hS9 : St w ((g, 38, #[.int .u8 op, .int .i64 xa, .int .i64 ((l.length : Int) - 1 - xb), .int .i64 xc, .int .i64 xd]) :: [(w.heap.size + 2, 24, #[v, .int .i64 mem, .int .i64 st]), (w.heap.size + 1, 24, #[.slice none 0 0, .int .i64 0, .int .i64 0]), (w.heap.size, 24, #[.slice (some ⟨b, o, none⟩) l.length cap, .int .i64 mem, .int .i64 st])]) (wt.setCell ⟨g, 2, none⟩ (.int .i64 ((l.length : Int) - 1 - xb))) := hS5.set1 (by omega) hLy.out 2 (.int .i64 ((l.length : Int) - 1 - xb))
        have hown9 := CRow.setFar hown5 ⟨g, 2, none⟩ hgo.out (.int .i64 ((l.length : Int) - 1 - xb))
        generalize wt.setCell ⟨g, 2, none⟩ (.int .i64 ((l.length : Int) - 1 - xb)) = w9 at *
        clear hS5 hown5 x0 x1 x2 x3 x4 xf0 xf1 xf2 xf3 xf4 m0 m1 m2 hB
        obtain ⟨x0, x1, x2, x3, x4, xf0, xf1, xf2, xf3, xf4⟩ := Blk.cells5 hS9.b1; obtain ⟨m0, m1, m2, mf0, mf1, mf2⟩ := Blk.cells3 hS9.b2; have l9 := hS9.b1.lt
        have Q1 := Lib.hid (show (Img.invP l (l.length - (i + 1))).length + 1 ≤ maxLen by rw [Img.invP_length]; unfold maxLen; omega)
        have Q2 := Lib.hid (show ((Img.invP l (l.length - (i + 1))).length + 1) * 40 ≤ 140737488355328 by rw [Img.invP_length]; omega)
        have Q3 := Lib.hid (show ∀ o : Obj, w.heap.size + 3 ≤ (w9.alloc o).heap.size from fun o => by simp; omega)
        have Q4 := Lib.hid (show ∀ u ∈ ([.int .u8 op, .int .i64 xa, .int .i64 ((l.length : Int) - 1 - xb), .int .i64 xc, .int .i64 xd] : List Value), u.oneCell' = true from ins_oneCell ⟨op, xa, ((l.length : Int) - 1 - xb), xc, xd⟩)
        have Q5 := Lib.hid (show ∀ j u, ([.int .u8 op, .int .i64 xa, .int .i64 ((l.length : Int) - 1 - xb), .int .i64 xc, .int .i64 xd] : List Value)[j]? = some u → (w9.alloc (.cells #[.int .u8 op, .int .i64 xa, .int .i64 ((l.length : Int) - 1 - xb), .int .i64 xc, .int .i64 xd] 38)).cell? ((⟨w9.heap.size, 0, none⟩ : Addr).add j) = some u from cells5_from (Blk.new _ _ _))
        go_wp2_with (at_builtin; refine wpList_append_own _ rfl _ _ 22 rfl (w.heap.size + 3) 38 i0 (.agg #[.int .u8 0, .int .i64 0, .int .i64 0, .int .i64 0, .int .i64 0]) 5 40 Try.underlying22 hi hz0 hz1 hz2 rfl (by decide) _ _ _ rfl (hown9.alloc _) ⟨w9.heap.size, 0, none⟩ 1 1 [.int .u8 op, .int .i64 xa, .int .i64 ((l.length : Int) - 1 - xb), .int .i64 xc, .int .i64 xd] rfl rfl Q5.out Q4.out Q1.out Q2.out (Q3.out _) ?_)
        intro v' w10 hownA hgrow _
        have hSA := ref_grown (b := 0) (o := 0) hS9 hown9 hgrow
        clear hgrow hS9 hown9 x0 x1 x2 x3 x4 xf0 xf1 xf2 xf3 xf4 m0 m1 m2 mf0 mf1 mf2 l9 Q1 Q2 Q3 Q4 Q5
        obtain ⟨o0, o1, o2, of0, of1, of2⟩ := Blk.cells3 hSA.b1
        obtain ⟨A9, c9, rfl⟩ := own_slice hownA
        go_wp2
        go_roundw
        case rel => exact ⟨i, rfl, ref_round hil HY.out hSA hownA rfl⟩
        case measure => simp [intOf] <;> omega
      · have HY := Lib.hid hY.symm
        obtain ⟨o30, o31⟩ := Bool.or_eq_false_iff.1 ho
        have ht2 : decide (0 ≤ tr) = false := decide_eq_false (by omega)
        clear hY ho
        go_upto_region 14 with (go_at_call 48; refine (HT.out _).mono ?_; rintro e wt ⟨rfl, hB⟩; replace hS5 := St.call hB hS5; replace hown5 := CRow.below hown5 hB; obtain ⟨x0, x1, x2, x3, x4, xf0, xf1, xf2, xf3, xf4⟩ := Blk.cells5 hS5.b1; obtain ⟨m0, m1, m2, -⟩ := Blk.cells3 hS5.b4)
        have hS9 := hS5
        have hown9 := hown5
        clear hB
        generalize wt = w9 at *
        clear hS5 hown5 x0 x1 x2 x3 x4 xf0 xf1 xf2 xf3 xf4 m0 m1 m2
        obtain ⟨x0, x1, x2, x3, x4, xf0, xf1, xf2, xf3, xf4⟩ := Blk.cells5 hS9.b1; obtain ⟨m0, m1, m2, mf0, mf1, mf2⟩ := Blk.cells3 hS9.b2; have l9 := hS9.b1.lt
        have Q1 := Lib.hid (show (Img.invP l (l.length - (i + 1))).length + 1 ≤ maxLen by rw [Img.invP_length]; unfold maxLen; omega)
        have Q2 := Lib.hid (show ((Img.invP l (l.length - (i + 1))).length + 1) * 40 ≤ 140737488355328 by rw [Img.invP_length]; omega)
        have Q3 := Lib.hid (show ∀ o : Obj, w.heap.size + 3 ≤ (w9.alloc o).heap.size from fun o => by simp; omega)
        have Q4 := Lib.hid (show ∀ u ∈ ([.int .u8 op, .int .i64 xa, .int .i64 xb, .int .i64 xc, .int .i64 xd] : List Value), u.oneCell' = true from ins_oneCell ⟨op, xa, xb, xc, xd⟩)
        have Q5 := Lib.hid (show ∀ j u, ([.int .u8 op, .int .i64 xa, .int .i64 xb, .int .i64 xc, .int .i64 xd] : List Value)[j]? = some u → (w9.alloc (.cells #[.int .u8 op, .int .i64 xa, .int .i64 xb, .int .i64 xc, .int .i64 xd] 38)).cell? ((⟨w9.heap.size, 0, none⟩ : Addr).add j) = some u from cells5_from (Blk.new _ _ _))
        go_wp2_with (at_builtin; refine wpList_append_own _ rfl _ _ 22 rfl (w.heap.size + 3) 38 i0 (.agg #[.int .u8 0, .int .i64 0, .int .i64 0, .int .i64 0, .int .i64 0]) 5 40 Try.underlying22 hi hz0 hz1 hz2 rfl (by decide) _ _ _ rfl (hown9.alloc _) ⟨w9.heap.size, 0, none⟩ 1 1 [.int .u8 op, .int .i64 xa, .int .i64 xb, .int .i64 xc, .int .i64 xd] rfl rfl Q5.out Q4.out Q1.out Q2.out (Q3.out _) ?_)
        intro v' w10 hownA hgrow _
        have hSA := ref_grown (b := 0) (o := 0) hS9 hown9 hgrow
        clear hgrow hS9 hown9 x0 x1 x2 x3 x4 xf0 xf1 xf2 xf3 xf4 m0 m1 m2 mf0 mf1 mf2 l9 Q1 Q2 Q3 Q4 Q5
        obtain ⟨o0, o1, o2, of0, of1, of2⟩ := Blk.cells3 hSA.b1
        obtain ⟨A9, c9, rfl⟩ := own_slice hownA
        go_wp2
        go_roundw
        case rel => exact ⟨i, rfl, ref_round hil HY.out hSA hownA rfl⟩
        case measure => simp [intOf] <;> omega

end Go.Proofs.Yteonkfdmkgjpaaa
