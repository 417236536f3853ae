/- The walks of the laws of layer 32: PeepholeKeeps, its closure. -/
import Derived.Test.YteonkfdmkgjpaaaPeeS
import Derived.Test.YteonkfdmkgjpaaaPush
import Derived.Test.YteonkfdmkgjpaaaImgL4
import Derived.Deep.RegionHeld
import Derived.Laws.BytesArg
import Derived.Deep.RegionHeld3
import Derived.Deep.DeepCutAuto
import Derived.BigQuiet
import Derived.Deep.QuietTactic
import Derived.BigRegion
import Derived.Deep.CutBlock
namespace Go.Proofs.Yteonkfdmkgjpaaa
open Go.RowKit
set_option linter.unusedVariables false
set_option linter.unusedSimpArgs false

theorem own_empty2 {w0 W : World} {L : List (Nat × TypeId × Array Value)} {F : List WF} {base : Nat} (hS : Sx w0 L F W) (hb : base ≤ W.heap.size) : CRow (W.alloc (.cells #[] 38)) base (.slice (some ⟨W.heap.size, 0, none⟩) 0 0) [] := World.ownsRow_made W #[] 0 hb (Nat.zero_le _) (by simp)
/-- 'append([]api.Instr{}, l...)' -/
theorem wpList_pour_new {ops : Array Oper} {rest : List Oper} {o : Oper} {a : Act} {Q : Exit → Act → World → Prop} {w0 W : World} {L : List (Nat × TypeId × Array Value)} {F : List WF} {A : Option Addr} {B : List Ins} {c : Nat} (base : Nat) (hS : Sx w0 L F W) (hR : CodeAt W A B) (hgd : o.guard = none) (s x : Operand) (ho : o.op = .call { callee := .builtin .append, args := #[s, x], argTypes := #[22, 22] }) (hs : a.eval s = .slice (some ⟨W.heap.size, 0, none⟩) 0 0) (hx : a.eval x = .slice A B.length c)
    (hlen : B.length ≤ 131072) (hb0 : w0.heap.size ≤ base) (hbW : base ≤ W.heap.size)
    (h : ∀ A' n' c' w', Hid (n' = B.length) → Sx w0 L [rowF base (.slice A' n' c') B] w' → wpList Try.prog ops Q rest (a.put o.dst (.slice A' n' c')) w') : wpList Try.prog ops Q (o :: rest) a (W.alloc (.cells #[] 38)) := by
  have hS2 : Sx w0 L [rowF base (.slice (some ⟨W.heap.size, 0, none⟩) 0 0) []] (W.alloc (.cells #[] 38)) := Sx.add (own_empty2 hS hbW) ⟨(hS.1.alloc #[] 38).tail, fun f hf => by cases hf⟩
  refine wpList_pour hS2 (CodeAt.after ((Below.refl _ _).alloc (Nat.le_refl _) _) hR) hgd s x ho hs hx (by simpa using hlen) hb0 (by simp; omega) (fun z hz e => ?_) (fun A' n' c' w' h8 h9 _ => h A' n' c' w' (by simpa using h8) (by simpa using h9))
  have := hS.1.lts z hz
  simp [Value.ownBlock] at e
  omega

abbrev bv (xs : List Int) : List Value := xs.map fun n => Value.int .u8 n
abbrev BRow (W : World) (base : Nat) (v : Value) (xs : List Int) : Prop := W.ownsRow base 5 1 v xs.length (bv xs)
theorem BRow.below' {W W' : World} {base : Nat} {v : Value} {xs : List Int} (h : BRow W base v xs) (hB : Below W.heap.size W W') : BRow W' base v xs := by
  refine h.kept (row := none) ⟨hB.os, hB.tape, hB.output, hB.size, fun k hk _ => hB.block k hk⟩ ?_
  cases v.ownBlock
  · exact .inl rfl
  · exact .inr (by simp)
abbrev browF (base : Nat) (v : Value) (xs : List Int) : WF := ⟨fun w => BRow w base v xs, fun _ _ hB h => BRow.below' h hB⟩
theorem info_u8 : (Try.prog.info? 5).map (fun i => (i.zero, i.size, i.bytes)) = some (some (.int .u8 0), 1, 1) := by kernel_rfl
/-- 'out = append(out, b)' -/
theorem wpList_push_u8 {ops : Array Oper} {rest : List Oper} {o : Oper} {a : Act} {Q : Exit → Act → World → Prop} {w0 W : World} {L : List (Nat × TypeId × Array Value)} {F : List WF} {base : Nat} {v : Value} {xs : List Int} (y : Int) (hS : Sx w0 L (browF base v xs :: F) W) (hgd : o.guard = none) (s x : Operand) (ho : o.op = .call { callee := .builtin .append, args := #[s, x], argTypes := #[57, 57] }) (hs : a.eval s = v) (hx : a.eval x = .slice (some ⟨W.heap.size, 0, none⟩) 1 1)
    (hlen : xs.length ≤ 131072) (hb0 : w0.heap.size ≤ base) (hbW : base ≤ W.heap.size) (hL : ∀ z ∈ L, v.ownBlock ≠ some z.1)
    (h : ∀ A' n' c' w', Hid (n' = (xs ++ [y]).length) → Sx w0 L [browF base (.slice A' n' c') (xs ++ [y])] w' → wpList Try.prog ops Q rest (a.put o.dst (.slice A' n' c')) w') : wpList Try.prog ops Q (o :: rest) a (W.alloc (.cells #[.int .u8 y] 5)) := by
  obtain ⟨i0, hi, hz0, hz1, hz2⟩ := info_parts info_u8
  have hown : BRow W base v xs := hS.f1
  refine wpList_append_own _ hgd s x 57 ho base 5 i0 (.int .u8 0) 1 1 Try.underlying57 hi hz0 hz1 hz2 rfl (by decide) v xs.length (bv xs) hs (hown.alloc _) ⟨W.heap.size, 0, none⟩ 1 1 [.int .u8 y] hx rfl (by intro j u hj; cases j with | zero => simp at hj; subst hj; simp [Addr.add] | succ j => simp at hj) (by intro u hu; simp at hu; subst hu; rfl) (by unfold maxLen; omega) (by omega) (by simp; omega) ?_
  intro v' w' h2 h3 _
  have h2' : BRow w' base v' (xs ++ [y]) := by
    show w'.ownsRow base _ 1 v' (xs ++ [y]).length (bv (xs ++ [y]))
    rw [List.length_append, List.length_singleton]
    simpa [bv] using h2
  obtain ⟨A', c', rfl⟩ := own_slice' h2'
  refine h A' _ c' w' (Lib.hid rfl) (Sx.grown (F := [browF base (.slice A' (xs ++ [y]).length c') (xs ++ [y])]) ((hS.1.alloc #[.int .u8 y] 5).tail) h3 (fun q hq => Nat.le_trans hb0 (World.ownsRow.lt hown q hq).1) (fun z hz e => hL z hz e.symm) ?_)
  intro f hf
  simp only [List.mem_cons, List.not_mem_nil, or_false] at hf
  subst hf
  exact h2'
/-- what the bytes of an own row read as -/
theorem BRow.text {W : World} {base n c : Nat} {A : Option Addr} {xs : List Int} (h : BRow W base (.slice A n c) xs) : ∀ w2, Below W.heap.size W w2 → (Go.convert 57 9 (.slice A n c)).run Try.prog w2 = .ok (.string (strOfNums xs)) w2 := by
  intro w2 hB
  have h2 := BRow.below' h hB
  rcases h2.2 with ⟨e, h0⟩ | ⟨g, cap, cur, e, hg, hh, hnc, hcap, hsz, htake⟩
  · injection e with e1 e2 e3
    subst e1 e2 e3
    have hx : xs = [] := List.eq_nil_of_length_eq_zero h0
    subst hx
    exact run_convert_bytes_nil w2 _ _ Try.underlying57 Try.underlying5 _ _ _ Try.underlying9
  · injection e with e1 e2 e3
    subst e1 e2 e3
    refine run_convert_bytes_arg w2 _ _ Try.underlying57 Try.underlying5 g 0 _ _ xs rfl (fun i hi => ?_) _ Try.underlying9
    rw [Nat.zero_add, h2.cellAt _ (by simpa using hi)]
    simp [bv, List.getD_eq_getElem?_getD, List.getElem?_eq_getElem hi]
namespace Pee
theorem ctls_step {l : List Ins} {i : Nat} (h : i < l.length) : ctls (l.take (i + 1)) = if ctl (Img.at_ l i) then ctls (l.take i) ++ [(Img.at_ l i).op] else ctls (l.take i) := by
  rw [take_at l i h, ctls_append]
  cases hc : ctl (Img.at_ l i) <;> simp [ctls, hc]
theorem ctls_len (l : List Ins) (i : Nat) : (ctls (l.take i)).length ≤ l.length := by
  unfold ctls
  rw [List.length_map]
  exact Nat.le_trans (List.length_filter_le _ _) (by simp; omega)
theorem starts_filter (l : List Ins) : (Img.starts l).length = (l.filter Img.isS).length := by
  have e : l = (List.range l.length).map (Img.at_ l) := by
    apply List.ext_getElem (by simp)
    intro i h1 h2
    simp [Img.at_, List.getD_eq_getElem?_getD, List.getElem?_eq_getElem h1]
  conv => rhs; rw [e]
  rw [List.filter_map, List.length_map]
  rfl
theorem starts_opt {l : List Ins} (h : Img.Ok l) : (Img.starts (opt l)).length = (Img.starts l).length := by
  rw [starts_filter, starts_filter, starts_ctls, starts_ctls, ctls_opt h]
end Pee

set_option maxHeartbeats 16000000 in
set_option maxRecDepth 100000 in
theorem keeps1_any (l : List Ins) (A : Option Addr) (cap : Nat) (w : World) (hn0 : l.length ≤ 65536) (hA : CodeAt w A l) :
    Calls Try.prog 45 #[.slice A l.length cap] w fun e w' => ∃ A9 n9 c9, e = .returned (.slice A9 n9 c9) ∧ Below w.heap.size w w' ∧ ∀ w2, Below w'.heap.size w' w2 → (Go.convert 57 9 (.slice A9 n9 c9)).run Try.prog w2 = .ok (.string (strOfNums (Pee.ctls l))) w2 := by
  have hS : Sx w [] [] w :=  (Sx.start (F := []) w (fun _ h => by cases h))
  have hc : True := trivial
  go_enter Try.func45, Try.ntmps45
  go_wp2
  go_loopw [3, 10] (fun v s wr => ∃ k : Nat, k ≤ l.length ∧ s = .int .i64 k ∧ Sx w [] [browF w.heap.size v (Pee.ctls (l.take k))] wr) (fun _ s _ => l.length - (intOf s).toNat)
  case atStart => exact ⟨0, Nat.zero_le _, rfl, Sx.add (f := browF w.heap.size (.slice none 0 0) (Pee.ctls (l.take 0))) (World.ownsRow_nil _ _ _ _) hS⟩
  case round =>
    clear hS hc
    obtain ⟨k, hk, rfl, hS⟩ := hrel
    have hc : True := trivial
    by_cases hlt : k < l.length
    · obtain ⟨b, o, rfl⟩ := hA.some (by omega)
      obtain ⟨hb, x0, x1, x2, x3, x4⟩ := CodeAt.cells (CodeAt.after hS.below hA) hlt
      have HST := Lib.hid (Pee.ctls_step hlt)
      have HLEN := Lib.hid (show (Pee.ctls (l.take k)).length ≤ 131072 by have := Pee.ctls_len l k; omega)
      have hrow := World.ownsRow.lt hS.f1
      generalize Pee.ctls (l.take k) = ks at *
      obtain ⟨x, hx⟩ : ∃ x, Img.at_ l k = x := ⟨_, rfl⟩
      rw [hx] at x0 x1 x2 x3 x4 HST
      go_upto_region 5 with fail
      apply wp_abs (w0 := w)
      · (repeat (first | with_reducible apply Sx.alloc | with_reducible apply Sx.drew | with_reducible apply Sx.drewN | with_reducible exact hS))
      intro wx hS2; clear hS; have hS := hS2; clear hS2; (try simp only [World.size_alloc, World.size_drew] at hS)
      clear hc; have hc := hS.cellsL; simp only [CellsL, CellsF, Nat.zero_add, Nat.reduceAdd, and_true, true_and] at hc
      obtain ⟨gx, hgx⟩ : ∃ q, wr.heap.size = q := ⟨_, rfl⟩
      have HN := Lib.hid (show ∀ z ∈ ([(gx, 38, #[.int .u8 (x).op, .int .i64 (x).a, .int .i64 (x).b, .int .i64 (x).c, .int .i64 (x).d])] : List (Nat × TypeId × Array Value)), u3.ownBlock ≠ some z.1 from fun z hz e => by
        simp only [List.mem_cons, List.not_mem_nil, or_false] at hz
        rw [hz] at e
        have h9 := (hrow _ e).2
        simp at h9
        omega)
      simp only [hgx] at hS hc ⊢
      clear hgx hrow x0 x1 x2 x3 x4 hx hb
      cases hh : Img.has x
      · have HT := Lib.hid (target_ex x _ false rfl hh)
        cases p1 : (x.op == 34)
        · cases p2 : (x.op == 21)
          · cases p3 : (x.op == 0)
            · have HST2 := Lib.hid (HST.out.trans (by rw [if_neg (by simp [Pee.ctl, *])]) : _ = ks)
              clear HST
              go_wp2_with (first | (go_at_call 33; apply calls_abs (w0 := w); (repeat (first | with_reducible apply Sx.alloc | with_reducible apply Sx.drew | with_reducible apply Sx.drewN | with_reducible exact hS)); intro wx hS2; clear hS; have hS := hS2; clear hS2; (try simp only [World.size_alloc, World.size_drew] at hS); refine (HT.out _).mono ?_; rintro e wn ⟨rfl, hB⟩; replace hS := Sx.call hB hS; clear hB; clear hc; have hc := hS.cellsL; simp only [CellsL, CellsF, Nat.zero_add, Nat.reduceAdd, and_true, true_and] at hc))
              go_roundw
              case rel => exact ⟨k + 1, hlt, by go_num, by rw [HST2.out]; exact Sx.drop hS⟩
              case measure => simp [intOf] <;> omega
            · skip
              have HST2 := Lib.hid (HST.out.trans (by rw [if_pos (by simp [Pee.ctl, *])]) : _ = ks ++ [x.op])
              clear HST
              go_upto_region 7 with (first | (go_at_call 33; apply calls_abs (w0 := w); (repeat (first | with_reducible apply Sx.alloc | with_reducible apply Sx.drew | with_reducible apply Sx.drewN | with_reducible exact hS)); intro wx hS2; clear hS; have hS := hS2; clear hS2; (try simp only [World.size_alloc, World.size_drew] at hS); refine (HT.out _).mono ?_; rintro e wn ⟨rfl, hB⟩; replace hS := Sx.call hB hS; clear hB; clear hc; have hc := hS.cellsL; simp only [CellsL, CellsF, Nat.zero_add, Nat.reduceAdd, and_true, true_and] at hc))
              obtain ⟨wx, hwx⟩ : ∃ wx : World, wx = wn := ⟨_, rfl⟩
              rw [← hwx] at hS hc ⊢
              clear hwx
              have hgw : w.heap.size ≤ wx.heap.size := hS.1.1.size
              go_upto_region 8 with (first | (at_builtin; refine wpList_push_u8 x.op hS rfl _ _ rfl rfl rfl HLEN.out (Nat.le_refl _) hgw HN.out ?_; intro A1 n1 c1 w10 hn1 hS10; clear hS; have hS := hS10; clear hS10))
              go_wp2
              go_roundw
              case rel => exact ⟨k + 1, hlt, by go_num, by rw [HST2.out]; exact Sx.drop hS⟩
              case measure => simp [intOf] <;> omega
          · skip
            have HST2 := Lib.hid (HST.out.trans (by rw [if_pos (by simp [Pee.ctl, *])]) : _ = ks ++ [x.op])
            clear HST
            go_upto_region 7 with (first | (go_at_call 33; apply calls_abs (w0 := w); (repeat (first | with_reducible apply Sx.alloc | with_reducible apply Sx.drew | with_reducible apply Sx.drewN | with_reducible exact hS)); intro wx hS2; clear hS; have hS := hS2; clear hS2; (try simp only [World.size_alloc, World.size_drew] at hS); refine (HT.out _).mono ?_; rintro e wn ⟨rfl, hB⟩; replace hS := Sx.call hB hS; clear hB; clear hc; have hc := hS.cellsL; simp only [CellsL, CellsF, Nat.zero_add, Nat.reduceAdd, and_true, true_and] at hc))
            obtain ⟨wx, hwx⟩ : ∃ wx : World, wx = wn := ⟨_, rfl⟩
            rw [← hwx] at hS hc ⊢
            clear hwx
            have hgw : w.heap.size ≤ wx.heap.size := hS.1.1.size
            go_upto_region 8 with (first | (at_builtin; refine wpList_push_u8 x.op hS rfl _ _ rfl rfl rfl HLEN.out (Nat.le_refl _) hgw HN.out ?_; intro A1 n1 c1 w10 hn1 hS10; clear hS; have hS := hS10; clear hS10))
            go_wp2
            go_roundw
            case rel => exact ⟨k + 1, hlt, by go_num, by rw [HST2.out]; exact Sx.drop hS⟩
            case measure => simp [intOf] <;> omega
        · skip
          have HST2 := Lib.hid (HST.out.trans (by rw [if_pos (by simp [Pee.ctl, *])]) : _ = ks ++ [x.op])
          clear HST
          go_upto_region 7 with (first | (go_at_call 33; apply calls_abs (w0 := w); (repeat (first | with_reducible apply Sx.alloc | with_reducible apply Sx.drew | with_reducible apply Sx.drewN | with_reducible exact hS)); intro wx hS2; clear hS; have hS := hS2; clear hS2; (try simp only [World.size_alloc, World.size_drew] at hS); refine (HT.out _).mono ?_; rintro e wn ⟨rfl, hB⟩; replace hS := Sx.call hB hS; clear hB; clear hc; have hc := hS.cellsL; simp only [CellsL, CellsF, Nat.zero_add, Nat.reduceAdd, and_true, true_and] at hc))
          obtain ⟨wx, hwx⟩ : ∃ wx : World, wx = wn := ⟨_, rfl⟩
          rw [← hwx] at hS hc ⊢
          clear hwx
          have hgw : w.heap.size ≤ wx.heap.size := hS.1.1.size
          go_upto_region 8 with (first | (at_builtin; refine wpList_push_u8 x.op hS rfl _ _ rfl rfl rfl HLEN.out (Nat.le_refl _) hgw HN.out ?_; intro A1 n1 c1 w10 hn1 hS10; clear hS; have hS := hS10; clear hS10))
          go_wp2
          go_roundw
          case rel => exact ⟨k + 1, hlt, by go_num, by rw [HST2.out]; exact Sx.drop hS⟩
          case measure => simp [intOf] <;> omega
      · have HT := Lib.hid (target_ex x _ true rfl hh)
        have HST2 := Lib.hid (HST.out.trans (by rw [if_pos (by simp [Pee.ctl, *])]) : _ = ks ++ [x.op])
        clear HST
        go_upto_region 7 with (first | (go_at_call 33; apply calls_abs (w0 := w); (repeat (first | with_reducible apply Sx.alloc | with_reducible apply Sx.drew | with_reducible apply Sx.drewN | with_reducible exact hS)); intro wx hS2; clear hS; have hS := hS2; clear hS2; (try simp only [World.size_alloc, World.size_drew] at hS); refine (HT.out _).mono ?_; rintro e wn ⟨rfl, hB⟩; replace hS := Sx.call hB hS; clear hB; clear hc; have hc := hS.cellsL; simp only [CellsL, CellsF, Nat.zero_add, Nat.reduceAdd, and_true, true_and] at hc))
        obtain ⟨wx, hwx⟩ : ∃ wx : World, wx = wn := ⟨_, rfl⟩
        rw [← hwx] at hS hc ⊢
        clear hwx
        have hgw : w.heap.size ≤ wx.heap.size := hS.1.1.size
        go_upto_region 8 with (first | (at_builtin; refine wpList_push_u8 x.op hS rfl _ _ rfl rfl rfl HLEN.out (Nat.le_refl _) hgw HN.out ?_; intro A1 n1 c1 w10 hn1 hS10; clear hS; have hS := hS10; clear hS10))
        go_wp2
        go_roundw
        case rel => exact ⟨k + 1, hlt, by go_num, by rw [HST2.out]; exact Sx.drop hS⟩
        case measure => simp [intOf] <;> omega
    · obtain rfl : k = l.length := by omega
      have hS2 := hS.f1
      rw [List.take_length] at hS2
      obtain ⟨A9, c9, rfl⟩ := own_slice' hS2
      go_wp2
      go_ret
      exact ⟨_, _, _, rfl, hS.below, BRow.text hS2⟩

theorem procs_calm (l : List Ins) (A : Option Addr) (n cap : Nat) (mem st : Int) (hn : l.length = n) (hn0 : l.length ≤ 65536) (q : Nat) (hq : (Img.starts l).length = q) (w : World) (hc : CodeAt w A l) :
    Calls Try.prog 31 #[.agg #[.slice A n cap, .int .i64 mem, .int .i64 st]] w fun e w' => ∃ A' cap', e = .returned (.slice A' q cap') ∧ Below w.heap.size w w' := procs_ex l A n cap mem st hn hn0 q hq w hc
set_option maxHeartbeats 32000000 in
set_option maxRecDepth 100000 in
theorem peepholeKeeps_walk (l : List Ins) (A : Option Addr) (cap : Nat) (mem st : Int) (w : World) (hA : CodeAt w A l) (hok : InsOk l) (hml : l.length ≤ maxLen) :
    Calls Try.prog 16 #[.agg #[.slice A l.length cap, .int .i64 mem, .int .i64 st]] w fun e w' => e = .returned (.bool true) ∧ Below w.heap.size w w' := by
  clear hok hml
  by_cases hl9 : 90 < l.length
  · have g1 : (90 : Int) < (l.length : Int) := by omega
    have g2 : decide ((90 : Int) < (l.length : Int)) = true := decide_eq_true g1
    clear hl9
    have hS : Sx w [] [codeF A l] w := (Sx.add (f := codeF A l) (hA) (Sx.start (F := []) w (fun _ h => by cases h)))
    have hc : True := trivial
    go_enter Try.func16, Try.ntmps16
    go_wp2_with (first | (go_at_call 37; apply calls_abs (w0 := w); (repeat (first | with_reducible apply Sx.alloc | with_reducible apply Sx.drew | with_reducible apply Sx.drewN | with_reducible exact hS)); intro wx hS2; clear hS; have hS := hS2; clear hS2; (try simp only [World.size_alloc, World.size_drew] at hS); refine (peeAwake_any _).mono ?_; rintro e wn ⟨rfl, hB⟩; replace hS := Sx.call hB hS; clear hB; clear hc; have hc := hS.cellsL; simp only [CellsL, CellsF, Nat.zero_add, Nat.reduceAdd, and_true, true_and] at hc))
    go_ret
    exact ⟨rfl, hS.below⟩
  have g1 : ¬ (90 : Int) < (l.length : Int) := by omega
  have g2 : decide ((90 : Int) < (l.length : Int)) = false := decide_eq_false g1
  have hn0 : l.length ≤ 65536 := by omega
  have HCB := Lib.hid (fun A1 c1 wx h h' => codes_ex l l A A1 l.length l.length cap c1 true rfl rfl (by simp) hn0 wx h h')
  have HCK := Lib.hid (fun wx h => check_any l A cap mem st wx h)
  have hS : Sx w [] [codeF A l] w := (Sx.add (f := codeF A l) (hA) (Sx.start (F := []) w (fun _ h => by cases h)))
  have hc : True := trivial
  go_enter Try.func16, Try.ntmps16
  go_upto_region 3 with (first | (go_at_call 37; apply calls_abs (w0 := w); (repeat (first | with_reducible apply Sx.alloc | with_reducible apply Sx.drew | with_reducible apply Sx.drewN | with_reducible exact hS)); intro wx hS2; clear hS; have hS := hS2; clear hS2; (try simp only [World.size_alloc, World.size_drew] at hS); refine (peeAwake_any _).mono ?_; rintro e wn ⟨rfl, hB⟩; replace hS := Sx.call hB hS; clear hB; clear hc; have hc := hS.cellsL; simp only [CellsL, CellsF, Nat.zero_add, Nat.reduceAdd, and_true, true_and] at hc))
  apply wp_abs (w0 := w)
  · (repeat (first | with_reducible apply Sx.alloc | with_reducible apply Sx.drew | with_reducible apply Sx.drewN | with_reducible exact hS))
  intro wx hS2; clear hS; have hS := hS2; clear hS2; (try simp only [World.size_alloc, World.size_drew] at hS)
  clear hc; have hc := hS.cellsL; simp only [CellsL, CellsF, Nat.zero_add, Nat.reduceAdd, and_true, true_and] at hc
  have hRc := CodeAt.after hS.below hA
  have hbw : w.heap.size + 1 ≤ wx.heap.size := hS.1.b1.lt
  go_upto_region 4 with (first | (at_builtin; refine wpList_pour_new (w.heap.size + 1) hS hRc rfl _ _ rfl rfl rfl (by omega) (Nat.le_succ _) hbw ?_; intro A1 n1 c1 w10 hn1 hS10; clear hS; have hS := hS10; clear hS10; clear hc; have hc := hS.cellsL; simp only [CellsL, CellsF, Nat.zero_add, Nat.reduceAdd, and_true, true_and] at hc))
  clear hRc hbw
  obtain ⟨A9, c9, e9, h9⟩ := code_of_own (show CRow w10 (w.heap.size + 1) (.slice A1 n1 c1) l from hS.f1)
  injection e9 with e1 e2 e3
  have e4 := e1.symm
  have e5 := e3.symm
  subst e4 e5 e2
  clear hn1
  replace hS : Sx w [(w.heap.size, 24, #[.slice A l.length cap, .int .i64 mem, .int .i64 st])] [codeF A9 l, codeF A l] w10 := ⟨hS.1, fun f hf => by
    simp only [List.mem_cons, List.not_mem_nil, or_false] at hf
    rcases hf with rfl | rfl
    · exact h9
    · exact CodeAt.after hS.below hA⟩
  clear h9
  cases hv : Img.valid l mem st
  · have HO := Lib.hid (fun wx h => poptimize_bad l A cap mem st wx h hv)
    have HRM := Lib.hid (fun wx h => removed_bad l A cap mem st wx h hv)
    have hne : ((Img.check l mem st).2 != 0) = true := by unfold Img.valid at hv; simp at hv; simpa using hv
    have hne2 : ((Img.check l mem st).2 == 0) = false := by unfold Img.valid at hv; exact hv
    generalize (Img.check l mem st).1 = k1 at *
    generalize (Img.check l mem st).2 = k2 at *
    clear hv
    go_upto_region 5 with (first | (go_at_call 41; apply calls_abs (w0 := w); (repeat (first | with_reducible apply Sx.alloc | with_reducible apply Sx.drew | with_reducible apply Sx.drewN | with_reducible exact hS)); intro wx hS2; clear hS; have hS := hS2; clear hS2; (try simp only [World.size_alloc, World.size_drew] at hS); refine (HO.out _ hS.f2).mono ?_; rintro e wn ⟨rfl, hB⟩; replace hS := Sx.call hB hS; clear hB; clear hc; have hc := hS.cellsL; simp only [CellsL, CellsF, Nat.zero_add, Nat.reduceAdd, and_true, true_and] at hc; obtain ⟨b1, hb1⟩ : ∃ q, wn.heap.size = q := ⟨_, rfl⟩; simp only [hb1] at hc))
    apply wp_abs (w0 := w)
    · (repeat (first | with_reducible apply Sx.alloc | with_reducible apply Sx.drew | with_reducible apply Sx.drewN | with_reducible exact hS))
    intro wx hS2; clear hS; have hS := hS2; clear hS2; (try simp only [World.size_alloc, World.size_drew] at hS)
    clear hc; have hc := hS.cellsL; simp only [CellsL, CellsF, Nat.zero_add, Nat.reduceAdd, and_true, true_and] at hc
    simp only [hb1] at hS hc ⊢
    go_wp2_with (first | (go_at_call 24; apply calls_abs (w0 := w); (repeat (first | with_reducible apply Sx.alloc | with_reducible apply Sx.drew | with_reducible apply Sx.drewN | with_reducible exact hS)); intro wx hS2; clear hS; have hS := hS2; clear hS2; (try simp only [World.size_alloc, World.size_drew] at hS); refine (HCK.out _ hS.f2).mono ?_; rintro e wn ⟨rfl, hB⟩; replace hS := Sx.call hB hS; clear hB; clear hc; have hc := hS.cellsL; simp only [CellsL, CellsF, Nat.zero_add, Nat.reduceAdd, and_true, true_and] at hc) | (go_at_call 42; apply calls_abs (w0 := w); (repeat (first | with_reducible apply Sx.alloc | with_reducible apply Sx.drew | with_reducible apply Sx.drewN | with_reducible exact hS)); intro wx hS2; clear hS; have hS := hS2; clear hS2; (try simp only [World.size_alloc, World.size_drew] at hS); refine (HCB.out _ _ _ hS.f2 hS.f1).mono ?_; rintro e wn ⟨rfl, hB⟩; replace hS := Sx.call hB hS; clear hB; clear hc; have hc := hS.cellsL; simp only [CellsL, CellsF, Nat.zero_add, Nat.reduceAdd, and_true, true_and] at hc) | (go_at_call 44; apply calls_abs (w0 := w); (repeat (first | with_reducible apply Sx.alloc | with_reducible apply Sx.drew | with_reducible apply Sx.drewN | with_reducible exact hS)); intro wx hS2; clear hS; have hS := hS2; clear hS2; (try simp only [World.size_alloc, World.size_drew] at hS); refine (HRM.out _ hS.f2).mono ?_; rintro e wn ⟨rfl, hB⟩; replace hS := Sx.call hB hS; clear hB; clear hc; have hc := hS.cellsL; simp only [CellsL, CellsF, Nat.zero_add, Nat.reduceAdd, and_true, true_and] at hc))
    go_ret
    exact ⟨rfl, hS.below⟩
  · have hOk := Img.valid_ok hv
    obtain ⟨x, hx⟩ : ∃ x, Pee.opt l = x := ⟨_, rfl⟩
    obtain ⟨q, hq⟩ : ∃ q, x.length = q := ⟨_, rfl⟩
    have hle := Pee.opt_le l
    have hz : (Img.check l mem st).2 = 0 := by unfold Img.valid at hv; simpa using hv
    rw [hz] at HCK
    have hst := Pee.starts_opt hOk
    have hct := Pee.ctls_opt hOk
    rw [hx] at hst hct hle
    rw [hq] at hle
    have HO := Lib.hid (fun wx h => popt_ex l x l.length q cap mem st rfl hv hx hq A wx h)
    have HKX := Lib.hid (fun A2 c2 wx h => keeps1_any x A2 c2 wx (by omega) h)
    have HKL := Lib.hid (fun wx h => keeps1_any l A cap wx hn0 h)
    rw [hct, hq] at HKX
    have HPX := Lib.hid (fun A2 c2 wx h => procs_ex x A2 q c2 mem st hq (by omega) _ hst wx h)
    have HPL := Lib.hid (fun wx h => procs_ex l A l.length cap mem st rfl hn0 _ rfl wx h)
    generalize (Img.check l mem st).1 = k1 at *
    generalize (Img.starts l).length = qs at *
    generalize strOfNums (Pee.ctls l) = S at *
    clear hz hst hct hx hq hOk hv hle
    go_upto_region 5 with (first | (go_at_call 41; apply calls_abs (w0 := w); (repeat (first | with_reducible apply Sx.alloc | with_reducible apply Sx.drew | with_reducible apply Sx.drewN | with_reducible exact hS)); intro wx hS2; clear hS; have hS := hS2; clear hS2; (try simp only [World.size_alloc, World.size_drew] at hS); refine (HO.out _ hS.f2).mono ?_; rintro e wn ⟨A2, c2, rfl, hB, h2⟩; replace hS := Sx.callF (f := codeF A2 x) hB (h2) hS; clear hB; clear hc; have hc := hS.cellsL; simp only [CellsL, CellsF, Nat.zero_add, Nat.reduceAdd, and_true, true_and] at hc; obtain ⟨b1, hb1⟩ : ∃ q, wn.heap.size = q := ⟨_, rfl⟩; simp only [hb1] at hc))
    apply wp_abs (w0 := w)
    · (repeat (first | with_reducible apply Sx.alloc | with_reducible apply Sx.drew | with_reducible apply Sx.drewN | with_reducible exact hS))
    intro wx hS2; clear hS; have hS := hS2; clear hS2; (try simp only [World.size_alloc, World.size_drew] at hS)
    clear hc; have hc := hS.cellsL; simp only [CellsL, CellsF, Nat.zero_add, Nat.reduceAdd, and_true, true_and] at hc
    simp only [hb1] at hS hc ⊢
    go_upto_region 11 with (first | (go_at_call 24; apply calls_abs (w0 := w); (repeat (first | with_reducible apply Sx.alloc | with_reducible apply Sx.drew | with_reducible apply Sx.drewN | with_reducible exact hS)); intro wx hS2; clear hS; have hS := hS2; clear hS2; (try simp only [World.size_alloc, World.size_drew] at hS); refine (HCK.out _ hS.f3).mono ?_; rintro e wn ⟨rfl, hB⟩; replace hS := Sx.call hB hS; clear hB; clear hc; have hc := hS.cellsL; simp only [CellsL, CellsF, Nat.zero_add, Nat.reduceAdd, and_true, true_and] at hc) | (go_at_call 42; apply calls_abs (w0 := w); (repeat (first | with_reducible apply Sx.alloc | with_reducible apply Sx.drew | with_reducible apply Sx.drewN | with_reducible exact hS)); intro wx hS2; clear hS; have hS := hS2; clear hS2; (try simp only [World.size_alloc, World.size_drew] at hS); refine (HCB.out _ _ _ hS.f3 hS.f2).mono ?_; rintro e wn ⟨rfl, hB⟩; replace hS := Sx.call hB hS; clear hB; clear hc; have hc := hS.cellsL; simp only [CellsL, CellsF, Nat.zero_add, Nat.reduceAdd, and_true, true_and] at hc))
    apply wp_abs (w0 := w)
    · (repeat (first | with_reducible apply Sx.alloc | with_reducible apply Sx.drew | with_reducible apply Sx.drewN | with_reducible exact hS))
    intro wx hS2; clear hS; have hS := hS2; clear hS2; (try simp only [World.size_alloc, World.size_drew] at hS)
    clear hc; have hc := hS.cellsL; simp only [CellsL, CellsF, Nat.zero_add, Nat.reduceAdd, and_true, true_and] at hc
    clear hb1 HO HCK HCB
    replace hS : Sx w [(b1, 24, #[Value.slice A2 q c2, Value.int .i64 mem, Value.int .i64 st]), (w.heap.size, 24, #[Value.slice A l.length cap, Value.int .i64 mem, Value.int .i64 st])] [codeF A2 x, codeF A l] wx := ⟨hS.1, fun f hf => hS.2 f (by simp only [List.mem_cons, List.not_mem_nil, or_false] at hf ⊢; rcases hf with rfl | rfl <;> simp)⟩
    have HK2 := Lib.hid (show ∀ wx : World, Sx w [(b1, 24, #[Value.slice A2 q c2, Value.int .i64 mem, Value.int .i64 st]), (w.heap.size, 24, #[Value.slice A l.length cap, Value.int .i64 mem, Value.int .i64 st])] [codeF A2 x, codeF A l] wx → (wx.cell? ⟨b1, 0, none⟩ = some (Value.slice A2 q c2) ∧ wx.cell? ⟨b1, 1, none⟩ = some (Value.int .i64 mem) ∧ wx.cell? ⟨b1, 2, none⟩ = some (Value.int .i64 st) ∧ wx.cell? ⟨w.heap.size, 0, none⟩ = some (Value.slice A l.length cap) ∧ wx.cell? ⟨w.heap.size, 1, none⟩ = some (Value.int .i64 mem) ∧ wx.cell? ⟨w.heap.size, 2, none⟩ = some (Value.int .i64 st) ∧ Sx w [(b1, 24, #[Value.slice A2 q c2, Value.int .i64 mem, Value.int .i64 st]), (w.heap.size, 24, #[Value.slice A l.length cap, Value.int .i64 mem, Value.int .i64 st])] [codeF A2 x, codeF A l] wx) from fun wx h => by
      have c := h.cellsL
      simp only [CellsL, CellsF, Nat.zero_add, Nat.reduceAdd, and_true, true_and] at c
      simp [c, h])
    have HKO := Lib.hid (fun (wx : World) (h : wx.cell? ⟨b1, 0, none⟩ = some (Value.slice A2 q c2) ∧ wx.cell? ⟨b1, 1, none⟩ = some (Value.int .i64 mem) ∧ wx.cell? ⟨b1, 2, none⟩ = some (Value.int .i64 st) ∧ wx.cell? ⟨w.heap.size, 0, none⟩ = some (Value.slice A l.length cap) ∧ wx.cell? ⟨w.heap.size, 1, none⟩ = some (Value.int .i64 mem) ∧ wx.cell? ⟨w.heap.size, 2, none⟩ = some (Value.int .i64 st) ∧ Sx w [(b1, 24, #[Value.slice A2 q c2, Value.int .i64 mem, Value.int .i64 st]), (w.heap.size, 24, #[Value.slice A l.length cap, Value.int .i64 mem, Value.int .i64 st])] [codeF A2 x, codeF A l] wx) => (show Sx w [(b1, 24, #[Value.slice A2 q c2, Value.int .i64 mem, Value.int .i64 st]), (w.heap.size, 24, #[Value.slice A l.length cap, Value.int .i64 mem, Value.int .i64 st])] [codeF A2 x, codeF A l] wx from h.2.2.2.2.2.2))
    have hH := HK2.out _ hS
    clear hc
    have hcvF : ∀ (w2 : World) {w1 : World}, Below w1.heap.size w1 w2 → True := fun _ _ _ => trivial
    go_region_held (fun wx => wx.cell? ⟨b1, 0, none⟩ = some (Value.slice A2 q c2) ∧ wx.cell? ⟨b1, 1, none⟩ = some (Value.int .i64 mem) ∧ wx.cell? ⟨b1, 2, none⟩ = some (Value.int .i64 st) ∧ wx.cell? ⟨w.heap.size, 0, none⟩ = some (Value.slice A l.length cap) ∧ wx.cell? ⟨w.heap.size, 1, none⟩ = some (Value.int .i64 mem) ∧ wx.cell? ⟨w.heap.size, 2, none⟩ = some (Value.int .i64 st) ∧ Sx w [(b1, 24, #[Value.slice A2 q c2, Value.int .i64 mem, Value.int .i64 st]), (w.heap.size, 24, #[Value.slice A l.length cap, Value.int .i64 mem, Value.int .i64 st])] [codeF A2 x, codeF A l] wx) (first | exact HK2.out _ (Sx.drew (by assumption)) | exact HK2.out _ (by assumption)) (first | (go_at_call 45; have hS9 : Sx w [(b1, 24, #[Value.slice A2 q c2, Value.int .i64 mem, Value.int .i64 st]), (w.heap.size, 24, #[Value.slice A l.length cap, Value.int .i64 mem, Value.int .i64 st])] [codeF A2 x, codeF A l] _ := (HKO.out _ (by assumption)); with_reducible refine (HKX.out _ _ _ hS9.f1).mono ?_; rintro e wn ⟨A9, n9, c9, rfl, hB, hN9⟩; have hS8 := Sx.call hB hS9; have hOld := hcvF _ hB; clear hcvF; have hcvF := hN9; have hCur := hN9 _ (Below.refl _ _); clear hB hN9) | (go_at_call 45; have hS9 : Sx w [(b1, 24, #[Value.slice A2 q c2, Value.int .i64 mem, Value.int .i64 st]), (w.heap.size, 24, #[Value.slice A l.length cap, Value.int .i64 mem, Value.int .i64 st])] [codeF A2 x, codeF A l] _ := (HKO.out _ (by assumption)); with_reducible refine (HKL.out _ hS9.f2).mono ?_; rintro e wn ⟨A9, n9, c9, rfl, hB, hN9⟩; have hS8 := Sx.call hB hS9; have hOld := hcvF _ hB; clear hcvF; have hcvF := hN9; have hCur := hN9 _ (Below.refl _ _); clear hB hN9) | (go_at_call 31; have hS9 : Sx w [(b1, 24, #[Value.slice A2 q c2, Value.int .i64 mem, Value.int .i64 st]), (w.heap.size, 24, #[Value.slice A l.length cap, Value.int .i64 mem, Value.int .i64 st])] [codeF A2 x, codeF A l] _ := (HKO.out _ (by assumption)); with_reducible refine (HPX.out _ _ _ hS9.f1).mono ?_; rintro e wn ⟨A8, c8, rfl, hB⟩; have hS8 := Sx.call hB hS9; clear hB) | (go_at_call 31; have hS9 : Sx w [(b1, 24, #[Value.slice A2 q c2, Value.int .i64 mem, Value.int .i64 st]), (w.heap.size, 24, #[Value.slice A l.length cap, Value.int .i64 mem, Value.int .i64 st])] [codeF A2 x, codeF A l] _ := (HKO.out _ (by assumption)); with_reducible refine (HPL.out _ hS9.f2).mono ?_; rintro e wn ⟨A8, c8, rfl, hB⟩; have hS8 := Sx.call hB hS9; clear hB))
    all_goals go_wp2_with fail
    all_goals go_ret
    all_goals exact ⟨rfl, hS8.below⟩

end Go.Proofs.Yteonkfdmkgjpaaa
