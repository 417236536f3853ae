/- The walks of the laws of layer 23: ImagePairs. -/
import Derived.Test.YteonkfdmkgjpaaaImgL2
import Derived.Deep.RegionHeld3
import Derived.Deep.DeepCutAuto
import Derived.BigQuiet
import Derived.Deep.QuietTactic
import Derived.BigRegion
import Derived.Deep.CutBlock
namespace Go.Proofs.Yteonkfdmkgjpaaa
open Go.RowKit
set_option linter.unusedVariables false
set_option linter.unusedSimpArgs false
theorem partner_some_ex (l : List Ins) (A : Option Addr) (n cap : Nat) (mem st : Int) (hn : l.length = n) (k p : Nat) (h : Img.partner l k = some p) (w : World) (hc : CodeAt w A l) :
    Calls Try.prog 27 #[.agg #[.slice A n cap, .int .i64 mem, .int .i64 st], .int .i64 k] w fun e w' => e = .returned (.tuple #[.int .i64 p, .bool true]) ∧ Below w.heap.size w w' := by
  subst hn
  have h2 := partner_any l A cap mem st k w hc
  rw [Img.partnerI_nat (Img.partner_lt h).1, h] at h2
  exact h2
theorem partner_none_ex (l : List Ins) (A : Option Addr) (n cap : Nat) (mem st : Int) (hn : l.length = n) (k : Nat) (hk : k < l.length) (h : Img.partner l k = none) (w : World) (hc : CodeAt w A l) :
    Calls Try.prog 27 #[.agg #[.slice A n cap, .int .i64 mem, .int .i64 st], .int .i64 k] w fun e w' => e = .returned (.tuple #[.int .i64 0, .bool false]) ∧ Below w.heap.size w w' := by
  subst hn
  have h2 := partner_any l A cap mem st k w hc
  rw [Img.partnerI_nat hk, h] at h2
  exact h2
theorem isJ_ex (op : Int) (b : Bool) (h : Isa.isJ op = b) (w : World) : Calls Try.prog 28 #[.int .u8 op] w fun e w' => e = .returned (.bool b) ∧ w = w' := by subst h; exact isJump_any op w
theorem isL_ex (op : Int) (b : Bool) (h : Isa.isL op = b) (w : World) : Calls Try.prog 29 #[.int .u8 op] w fun e w' => e = .returned (.bool b) ∧ w = w' := by subst h; exact isLanding_any op w
theorem vl_ex (x : Ins) (b : Bool) (h : Img.vl x = b) (w : World) : Calls Try.prog 30 #[.agg #[.int .u8 x.op, .int .i64 x.a, .int .i64 x.b, .int .i64 x.c, .int .i64 x.d]] w fun e w' => e = .returned (.bool b) ∧ Below w.heap.size w w' := by
  subst h
  exact valid_any _ _ _ _ _ w

set_option maxHeartbeats 8000000 in
set_option maxRecDepth 100000 in
theorem imagePairs_walk (l : List Ins) (A : Option Addr) (cap : Nat) (mem st : Int) (w : World) (hA : CodeAt w A l) (hok : InsOk l) (hml : l.length ≤ maxLen) :
    Calls Try.prog 7 #[.agg #[.slice A l.length cap, .int .i64 mem, .int .i64 st]] w fun e w' => e = .returned (.bool true) ∧ Below w.heap.size w w' := by
  by_cases h80 : 80 < l.length
  · have HG := Lib.hid (fun wx => imgGreat_any l A cap mem st wx)
    rw [decide_eq_true h80] at HG
    have hS : Sx w [] [codeF A l] w := (Sx.add (f := codeF A l) (hA) (Sx.start (F := []) w (fun _ h => by cases h)))
    have hc : True := trivial
    go_enter Try.func7, Try.ntmps7
    clear h80
    go_wp2_with (first | (go_at_call 18; apply calls_abs (w0 := w); (repeat (first | with_reducible apply Sx.alloc | with_reducible apply Sx.drew | with_reducible apply Sx.drewN | with_reducible exact hS)); intro wx hS2; clear hS; have hS := hS2; clear hS2; (try simp only [World.size_alloc, World.size_drew] at hS); refine (imgAwake_any _).mono ?_; rintro e wn ⟨rfl, hB⟩; replace hS := Sx.call hB hS; clear hB; clear hc; have hc := hS.cellsL; simp only [CellsL, CellsF, Nat.zero_add, Nat.reduceAdd, and_true, true_and] at hc) | (go_at_call 19; apply calls_abs (w0 := w); (repeat (first | with_reducible apply Sx.alloc | with_reducible apply Sx.drew | with_reducible apply Sx.drewN | with_reducible exact hS)); intro wx hS2; clear hS; have hS := hS2; clear hS2; (try simp only [World.size_alloc, World.size_drew] at hS); refine (HG.out _).mono ?_; rintro e wn ⟨rfl, hB⟩; replace hS := Sx.call hB hS; clear hB; clear hc; have hc := hS.cellsL; simp only [CellsL, CellsF, Nat.zero_add, Nat.reduceAdd, and_true, true_and] at hc))
    go_ret
    exact ⟨rfl, hS.below⟩
  have HG := Lib.hid (fun wx => imgGreat_any l A cap mem st wx)
  rw [decide_eq_false h80] at HG
  have hn0 : l.length ≤ 65536 := by omega
  cases hv : Img.valid l mem st
  · have HV := Lib.hid (fun wx h => imgValid_any l A cap mem st wx h)
    rw [hv] at HV
    have hS : Sx w [] [codeF A l] w := (Sx.add (f := codeF A l) (hA) (Sx.start (F := []) w (fun _ h => by cases h)))
    have hc : True := trivial
    go_enter Try.func7, Try.ntmps7
    clear h80 hv
    go_wp2_with (first | (go_at_call 18; apply calls_abs (w0 := w); (repeat (first | with_reducible apply Sx.alloc | with_reducible apply Sx.drew | with_reducible apply Sx.drewN | with_reducible exact hS)); intro wx hS2; clear hS; have hS := hS2; clear hS2; (try simp only [World.size_alloc, World.size_drew] at hS); refine (imgAwake_any _).mono ?_; rintro e wn ⟨rfl, hB⟩; replace hS := Sx.call hB hS; clear hB; clear hc; have hc := hS.cellsL; simp only [CellsL, CellsF, Nat.zero_add, Nat.reduceAdd, and_true, true_and] at hc) | (go_at_call 19; apply calls_abs (w0 := w); (repeat (first | with_reducible apply Sx.alloc | with_reducible apply Sx.drew | with_reducible apply Sx.drewN | with_reducible exact hS)); intro wx hS2; clear hS; have hS := hS2; clear hS2; (try simp only [World.size_alloc, World.size_drew] at hS); refine (HG.out _).mono ?_; rintro e wn ⟨rfl, hB⟩; replace hS := Sx.call hB hS; clear hB; clear hc; have hc := hS.cellsL; simp only [CellsL, CellsF, Nat.zero_add, Nat.reduceAdd, and_true, true_and] at hc) | (go_at_call 25; apply calls_abs (w0 := w); (repeat (first | with_reducible apply Sx.alloc | with_reducible apply Sx.drew | with_reducible apply Sx.drewN | with_reducible exact hS)); intro wx hS2; clear hS; have hS := hS2; clear hS2; (try simp only [World.size_alloc, World.size_drew] at hS); refine (HV.out _ hS.f1).mono ?_; rintro e wn ⟨rfl, hB⟩; replace hS := Sx.call hB hS; clear hB; clear hc; have hc := hS.cellsL; simp only [CellsL, CellsF, Nat.zero_add, Nat.reduceAdd, and_true, true_and] at hc))
    go_ret
    exact ⟨rfl, hS.below⟩
  have HV := Lib.hid (fun wx h => imgValid_any l A cap mem st wx h)
  rw [hv] at HV
  have hOk := Img.valid_ok hv
  have hS : Sx w [] [codeF A l] w := (Sx.add (f := codeF A l) (hA) (Sx.start (F := []) w (fun _ h => by cases h)))
  have hc : True := trivial
  clear h80 hv
  go_enter Try.func7, Try.ntmps7
  go_upto_region 5 with (first | (go_at_call 18; apply calls_abs (w0 := w); (repeat (first | with_reducible apply Sx.alloc | with_reducible apply Sx.drew | with_reducible apply Sx.drewN | with_reducible exact hS)); intro wx hS2; clear hS; have hS := hS2; clear hS2; (try simp only [World.size_alloc, World.size_drew] at hS); refine (imgAwake_any _).mono ?_; rintro e wn ⟨rfl, hB⟩; replace hS := Sx.call hB hS; clear hB; clear hc; have hc := hS.cellsL; simp only [CellsL, CellsF, Nat.zero_add, Nat.reduceAdd, and_true, true_and] at hc) | (go_at_call 19; apply calls_abs (w0 := w); (repeat (first | with_reducible apply Sx.alloc | with_reducible apply Sx.drew | with_reducible apply Sx.drewN | with_reducible exact hS)); intro wx hS2; clear hS; have hS := hS2; clear hS2; (try simp only [World.size_alloc, World.size_drew] at hS); refine (HG.out _).mono ?_; rintro e wn ⟨rfl, hB⟩; replace hS := Sx.call hB hS; clear hB; clear hc; have hc := hS.cellsL; simp only [CellsL, CellsF, Nat.zero_add, Nat.reduceAdd, and_true, true_and] at hc) | (go_at_call 25; apply calls_abs (w0 := w); (repeat (first | with_reducible apply Sx.alloc | with_reducible apply Sx.drew | with_reducible apply Sx.drewN | with_reducible exact hS)); intro wx hS2; clear hS; have hS := hS2; clear hS2; (try simp only [World.size_alloc, World.size_drew] at hS); refine (HV.out _ hS.f1).mono ?_; rintro e wn ⟨rfl, hB⟩; replace hS := Sx.call hB hS; clear hB; clear hc; have hc := hS.cellsL; simp only [CellsL, CellsF, Nat.zero_add, Nat.reduceAdd, and_true, true_and] at hc))
  go_wp2
  clear HV HG
  go_loopw [23] (fun s wr => ∃ k : Nat, k ≤ l.length ∧ s = .int .i64 k ∧ Sx w [(w.heap.size, 24, #[.slice A l.length cap, .int .i64 mem, .int .i64 st])] [codeF A l] wr) (fun s _ => l.length - (intOf s).toNat)
  case atStart => exact ⟨0, Nat.zero_le _, rfl, hS⟩
  case round =>
    clear hS hc
    obtain ⟨k, hk, rfl, hS⟩ := hrel
    have hc := hS.cellsL
    simp only [CellsL, CellsF, Nat.zero_add, Nat.reduceAdd, and_true, true_and] at hc
    by_cases hlt : k < l.length
    · have hF := hOk.fine hlt
      have hV := hF.v
      have HX := Lib.hid (vl_ex (Img.at_ l k) true hV)
      obtain ⟨b, o, rfl⟩ := hA.some (by omega)
      have T1 : True := trivial
      have T2 : True := trivial
      rcases Img.kind (Img.at_ l k) with ⟨ka, kb, kc, kd, ke, kf⟩ | ⟨ka, kb, kc, kd, ke, kf⟩ | ⟨ka, kb, kc, kd, ke, kf⟩ | ⟨ka, kb, kc, kd, ke, kf⟩ | ⟨ka, kb, kc, kd, ke, kf⟩ | ⟨ka, kb, kc, kd, ke, kf⟩
      · obtain ⟨p, hp⟩ := hF.pair (by rw [Img.pk_iff, kf, ke]; rfl)
        have hq := Img.PP.mk' hp
        have hpl := hq.hj
        have hne := hq.ne
        obtain ⟨-, q1, q2, q3, q4⟩ := hq.kinds_of
        have HP := Lib.hid (fun wx h => partner_some_ex l (some ⟨b, o, none⟩) l.length cap mem st rfl k p hp wx h)
        have HP2 := Lib.hid (fun wx h => partner_some_ex l (some ⟨b, o, none⟩) l.length cap mem st rfl p k (Img.partner_symm hp) wx h)
        have HJ := Lib.hid (isJ_ex (Img.at_ l k).op true ka)
        have HL := Lib.hid (isL_ex (Img.at_ l k).op false kb)
        have HJ2 := Lib.hid (isJ_ex (Img.at_ l p).op false (by rw [← q2]; exact kb))
        have HL2 := Lib.hid (isL_ex (Img.at_ l p).op true (by rw [← q1]; exact ka))
        have o32 : ((Img.at_ l k).op == 32) = false := kc
        have o33 : ((Img.at_ l k).op == 33) = false := kd
        have o30 : ((Img.at_ l k).op == 30) = false := by unfold Img.isC at ke; exact (Bool.or_eq_false_iff.1 ke).1
        have o31 : ((Img.at_ l k).op == 31) = false := by unfold Img.isC at ke; exact (Bool.or_eq_false_iff.1 ke).2
        have p33 : ((Img.at_ l p).op == 33) = false := by have := q3; rw [kc] at this; exact this.symm
        have n1 : ((k : Int) == (p : Int)) = false := by simp; omega
        have n2 : ((p : Int) == (k : Int)) = false := by simp; omega
        have n3 : decide ((p : Int) = (k : Int)) = false := by simp; omega
        clear hF hq hp q1 q2 q3 q4 ka kb kc kd ke kf hV hne
        obtain ⟨hb, x0, x1, x2, x3, x4⟩ := CodeAt.cells hS.f1 hlt
        go_upto_region 16 with (first | (go_at_call 27; have _t := T1; clear T1 _t; apply calls_abs (w0 := w); (repeat (first | with_reducible apply Sx.alloc | with_reducible apply Sx.drew | with_reducible apply Sx.drewN | with_reducible exact hS)); intro wx hS2; clear hS; have hS := hS2; clear hS2; (try simp only [World.size_alloc, World.size_drew] at hS); refine (HP.out _ hS.f1).mono ?_; rintro e wn ⟨rfl, hB⟩; replace hS := Sx.call hB hS; clear hB; clear hc; have hc := hS.cellsL; simp only [CellsL, CellsF, Nat.zero_add, Nat.reduceAdd, and_true, true_and] at hc) | (go_at_call 27; have _t := T2; clear T2 _t; apply calls_abs (w0 := w); (repeat (first | with_reducible apply Sx.alloc | with_reducible apply Sx.drew | with_reducible apply Sx.drewN | with_reducible exact hS)); intro wx hS2; clear hS; have hS := hS2; clear hS2; (try simp only [World.size_alloc, World.size_drew] at hS); refine (HP2.out _ hS.f1).mono ?_; rintro e wn ⟨rfl, hB⟩; replace hS := Sx.call hB hS; clear hB; clear hc; have hc := hS.cellsL; simp only [CellsL, CellsF, Nat.zero_add, Nat.reduceAdd, and_true, true_and] at hc) | (go_at_call 28; (first | (with_reducible refine (HJ.out _).mono ?_) | (with_reducible refine (HJ2.out _).mono ?_)); rintro e wn ⟨rfl, rfl⟩) | (go_at_call 29; (first | (with_reducible refine (HL.out _).mono ?_) | (with_reducible refine (HL2.out _).mono ?_)); rintro e wn ⟨rfl, rfl⟩) | (go_at_call 30; apply calls_abs (w0 := w); (repeat (first | with_reducible apply Sx.alloc | with_reducible apply Sx.drew | with_reducible apply Sx.drewN | with_reducible exact hS)); intro wx hS2; clear hS; have hS := hS2; clear hS2; (try simp only [World.size_alloc, World.size_drew] at hS); refine (HX.out _).mono ?_; rintro e wn ⟨rfl, hB⟩; replace hS := Sx.call hB hS; clear hB; clear hc; have hc := hS.cellsL; simp only [CellsL, CellsF, Nat.zero_add, Nat.reduceAdd, and_true, true_and] at hc))
        obtain ⟨hb, y0, y1, y2, y3, y4⟩ := CodeAt.cells hS.f1 hpl
        go_wp2_with (first | (go_at_call 28; (first | (with_reducible refine (HJ.out _).mono ?_) | (with_reducible refine (HJ2.out _).mono ?_)); rintro e wn ⟨rfl, rfl⟩) | (go_at_call 29; (first | (with_reducible refine (HL.out _).mono ?_) | (with_reducible refine (HL2.out _).mono ?_)); rintro e wn ⟨rfl, rfl⟩))
        go_roundw
        case rel => exact ⟨k + 1, hlt, by go_num, hS.drop⟩
        case measure => simp [intOf]; omega
      · obtain ⟨p, hp⟩ := hF.pair (by rw [Img.pk_iff, kf, ke]; rfl)
        have hq := Img.PP.mk' hp
        have hpl := hq.hj
        have hne := hq.ne
        obtain ⟨-, q1, q2, q3, q4⟩ := hq.kinds_of
        have HP := Lib.hid (fun wx h => partner_some_ex l (some ⟨b, o, none⟩) l.length cap mem st rfl k p hp wx h)
        have HP2 := Lib.hid (fun wx h => partner_some_ex l (some ⟨b, o, none⟩) l.length cap mem st rfl p k (Img.partner_symm hp) wx h)
        have HJ := Lib.hid (isJ_ex (Img.at_ l k).op false ka)
        have HL := Lib.hid (isL_ex (Img.at_ l k).op true kb)
        have HJ2 := Lib.hid (isJ_ex (Img.at_ l p).op true (by rw [← q2]; exact kb))
        have HL2 := Lib.hid (isL_ex (Img.at_ l p).op false (by rw [← q1]; exact ka))
        have o32 : ((Img.at_ l k).op == 32) = false := kc
        have o33 : ((Img.at_ l k).op == 33) = false := kd
        have o30 : ((Img.at_ l k).op == 30) = false := by unfold Img.isC at ke; exact (Bool.or_eq_false_iff.1 ke).1
        have o31 : ((Img.at_ l k).op == 31) = false := by unfold Img.isC at ke; exact (Bool.or_eq_false_iff.1 ke).2
        have p33 : ((Img.at_ l p).op == 33) = false := by have := q3; rw [kc] at this; exact this.symm
        have n1 : ((k : Int) == (p : Int)) = false := by simp; omega
        have n2 : ((p : Int) == (k : Int)) = false := by simp; omega
        have n3 : decide ((p : Int) = (k : Int)) = false := by simp; omega
        clear hF hq hp q1 q2 q3 q4 ka kb kc kd ke kf hV hne
        obtain ⟨hb, x0, x1, x2, x3, x4⟩ := CodeAt.cells hS.f1 hlt
        go_upto_region 16 with (first | (go_at_call 27; have _t := T1; clear T1 _t; apply calls_abs (w0 := w); (repeat (first | with_reducible apply Sx.alloc | with_reducible apply Sx.drew | with_reducible apply Sx.drewN | with_reducible exact hS)); intro wx hS2; clear hS; have hS := hS2; clear hS2; (try simp only [World.size_alloc, World.size_drew] at hS); refine (HP.out _ hS.f1).mono ?_; rintro e wn ⟨rfl, hB⟩; replace hS := Sx.call hB hS; clear hB; clear hc; have hc := hS.cellsL; simp only [CellsL, CellsF, Nat.zero_add, Nat.reduceAdd, and_true, true_and] at hc) | (go_at_call 27; have _t := T2; clear T2 _t; apply calls_abs (w0 := w); (repeat (first | with_reducible apply Sx.alloc | with_reducible apply Sx.drew | with_reducible apply Sx.drewN | with_reducible exact hS)); intro wx hS2; clear hS; have hS := hS2; clear hS2; (try simp only [World.size_alloc, World.size_drew] at hS); refine (HP2.out _ hS.f1).mono ?_; rintro e wn ⟨rfl, hB⟩; replace hS := Sx.call hB hS; clear hB; clear hc; have hc := hS.cellsL; simp only [CellsL, CellsF, Nat.zero_add, Nat.reduceAdd, and_true, true_and] at hc) | (go_at_call 28; (first | (with_reducible refine (HJ.out _).mono ?_) | (with_reducible refine (HJ2.out _).mono ?_)); rintro e wn ⟨rfl, rfl⟩) | (go_at_call 29; (first | (with_reducible refine (HL.out _).mono ?_) | (with_reducible refine (HL2.out _).mono ?_)); rintro e wn ⟨rfl, rfl⟩) | (go_at_call 30; apply calls_abs (w0 := w); (repeat (first | with_reducible apply Sx.alloc | with_reducible apply Sx.drew | with_reducible apply Sx.drewN | with_reducible exact hS)); intro wx hS2; clear hS; have hS := hS2; clear hS2; (try simp only [World.size_alloc, World.size_drew] at hS); refine (HX.out _).mono ?_; rintro e wn ⟨rfl, hB⟩; replace hS := Sx.call hB hS; clear hB; clear hc; have hc := hS.cellsL; simp only [CellsL, CellsF, Nat.zero_add, Nat.reduceAdd, and_true, true_and] at hc))
        obtain ⟨hb, y0, y1, y2, y3, y4⟩ := CodeAt.cells hS.f1 hpl
        go_wp2_with (first | (go_at_call 28; (first | (with_reducible refine (HJ.out _).mono ?_) | (with_reducible refine (HJ2.out _).mono ?_)); rintro e wn ⟨rfl, rfl⟩) | (go_at_call 29; (first | (with_reducible refine (HL.out _).mono ?_) | (with_reducible refine (HL2.out _).mono ?_)); rintro e wn ⟨rfl, rfl⟩))
        go_roundw
        case rel => exact ⟨k + 1, hlt, by go_num, hS.drop⟩
        case measure => simp [intOf]; omega
      · obtain ⟨p, hp⟩ := hF.pair (by rw [Img.pk_iff, kf, ke]; rfl)
        have hq := Img.PP.mk' hp
        have hpl := hq.hj
        have hne := hq.ne
        obtain ⟨-, q1, q2, q3, q4⟩ := hq.kinds_of
        have HP := Lib.hid (fun wx h => partner_some_ex l (some ⟨b, o, none⟩) l.length cap mem st rfl k p hp wx h)
        have HP2 := Lib.hid (fun wx h => partner_some_ex l (some ⟨b, o, none⟩) l.length cap mem st rfl p k (Img.partner_symm hp) wx h)
        have HJ := Lib.hid (isJ_ex (Img.at_ l k).op false ka)
        have HL := Lib.hid (isL_ex (Img.at_ l k).op false kb)
        have HJ2 := Lib.hid (isJ_ex (Img.at_ l p).op false (by rw [← q2]; exact kb))
        have HL2 := Lib.hid (isL_ex (Img.at_ l p).op false (by rw [← q1]; exact ka))
        have o32 : ((Img.at_ l k).op == 32) = true := kc
        have o33 : ((Img.at_ l k).op == 33) = false := kd
        have o30 : ((Img.at_ l k).op == 30) = false := by unfold Img.isC at ke; exact (Bool.or_eq_false_iff.1 ke).1
        have o31 : ((Img.at_ l k).op == 31) = false := by unfold Img.isC at ke; exact (Bool.or_eq_false_iff.1 ke).2
        have p33 : ((Img.at_ l p).op == 33) = true := by have := q3; rw [kc] at this; exact this.symm
        have n1 : ((k : Int) == (p : Int)) = false := by simp; omega
        have n2 : ((p : Int) == (k : Int)) = false := by simp; omega
        have n3 : decide ((p : Int) = (k : Int)) = false := by simp; omega
        clear hF hq hp q1 q2 q3 q4 ka kb kc kd ke kf hV hne
        obtain ⟨hb, x0, x1, x2, x3, x4⟩ := CodeAt.cells hS.f1 hlt
        go_upto_region 16 with (first | (go_at_call 27; have _t := T1; clear T1 _t; apply calls_abs (w0 := w); (repeat (first | with_reducible apply Sx.alloc | with_reducible apply Sx.drew | with_reducible apply Sx.drewN | with_reducible exact hS)); intro wx hS2; clear hS; have hS := hS2; clear hS2; (try simp only [World.size_alloc, World.size_drew] at hS); refine (HP.out _ hS.f1).mono ?_; rintro e wn ⟨rfl, hB⟩; replace hS := Sx.call hB hS; clear hB; clear hc; have hc := hS.cellsL; simp only [CellsL, CellsF, Nat.zero_add, Nat.reduceAdd, and_true, true_and] at hc) | (go_at_call 27; have _t := T2; clear T2 _t; apply calls_abs (w0 := w); (repeat (first | with_reducible apply Sx.alloc | with_reducible apply Sx.drew | with_reducible apply Sx.drewN | with_reducible exact hS)); intro wx hS2; clear hS; have hS := hS2; clear hS2; (try simp only [World.size_alloc, World.size_drew] at hS); refine (HP2.out _ hS.f1).mono ?_; rintro e wn ⟨rfl, hB⟩; replace hS := Sx.call hB hS; clear hB; clear hc; have hc := hS.cellsL; simp only [CellsL, CellsF, Nat.zero_add, Nat.reduceAdd, and_true, true_and] at hc) | (go_at_call 28; (first | (with_reducible refine (HJ.out _).mono ?_) | (with_reducible refine (HJ2.out _).mono ?_)); rintro e wn ⟨rfl, rfl⟩) | (go_at_call 29; (first | (with_reducible refine (HL.out _).mono ?_) | (with_reducible refine (HL2.out _).mono ?_)); rintro e wn ⟨rfl, rfl⟩) | (go_at_call 30; apply calls_abs (w0 := w); (repeat (first | with_reducible apply Sx.alloc | with_reducible apply Sx.drew | with_reducible apply Sx.drewN | with_reducible exact hS)); intro wx hS2; clear hS; have hS := hS2; clear hS2; (try simp only [World.size_alloc, World.size_drew] at hS); refine (HX.out _).mono ?_; rintro e wn ⟨rfl, hB⟩; replace hS := Sx.call hB hS; clear hB; clear hc; have hc := hS.cellsL; simp only [CellsL, CellsF, Nat.zero_add, Nat.reduceAdd, and_true, true_and] at hc))
        obtain ⟨hb, y0, y1, y2, y3, y4⟩ := CodeAt.cells hS.f1 hpl
        go_wp2_with (first | (go_at_call 28; (first | (with_reducible refine (HJ.out _).mono ?_) | (with_reducible refine (HJ2.out _).mono ?_)); rintro e wn ⟨rfl, rfl⟩) | (go_at_call 29; (first | (with_reducible refine (HL.out _).mono ?_) | (with_reducible refine (HL2.out _).mono ?_)); rintro e wn ⟨rfl, rfl⟩))
        go_roundw
        case rel => exact ⟨k + 1, hlt, by go_num, hS.drop⟩
        case measure => simp [intOf]; omega
      · obtain ⟨p, hp⟩ := hF.pair (by rw [Img.pk_iff, kf, ke]; rfl)
        have hq := Img.PP.mk' hp
        have hpl := hq.hj
        have hne := hq.ne
        obtain ⟨-, q1, q2, q3, q4⟩ := hq.kinds_of
        have HP := Lib.hid (fun wx h => partner_some_ex l (some ⟨b, o, none⟩) l.length cap mem st rfl k p hp wx h)
        have HP2 := Lib.hid (fun wx h => partner_some_ex l (some ⟨b, o, none⟩) l.length cap mem st rfl p k (Img.partner_symm hp) wx h)
        have HJ := Lib.hid (isJ_ex (Img.at_ l k).op false ka)
        have HL := Lib.hid (isL_ex (Img.at_ l k).op false kb)
        have HJ2 := Lib.hid (isJ_ex (Img.at_ l p).op false (by rw [← q2]; exact kb))
        have HL2 := Lib.hid (isL_ex (Img.at_ l p).op false (by rw [← q1]; exact ka))
        have o32 : ((Img.at_ l k).op == 32) = false := kc
        have o33 : ((Img.at_ l k).op == 33) = true := kd
        have o30 : ((Img.at_ l k).op == 30) = false := by unfold Img.isC at ke; exact (Bool.or_eq_false_iff.1 ke).1
        have o31 : ((Img.at_ l k).op == 31) = false := by unfold Img.isC at ke; exact (Bool.or_eq_false_iff.1 ke).2
        have p33 : ((Img.at_ l p).op == 33) = false := by have := q3; rw [kc] at this; exact this.symm
        have n1 : ((k : Int) == (p : Int)) = false := by simp; omega
        have n2 : ((p : Int) == (k : Int)) = false := by simp; omega
        have n3 : decide ((p : Int) = (k : Int)) = false := by simp; omega
        clear hF hq hp q1 q2 q3 q4 ka kb kc kd ke kf hV hne
        obtain ⟨hb, x0, x1, x2, x3, x4⟩ := CodeAt.cells hS.f1 hlt
        go_upto_region 16 with (first | (go_at_call 27; have _t := T1; clear T1 _t; apply calls_abs (w0 := w); (repeat (first | with_reducible apply Sx.alloc | with_reducible apply Sx.drew | with_reducible apply Sx.drewN | with_reducible exact hS)); intro wx hS2; clear hS; have hS := hS2; clear hS2; (try simp only [World.size_alloc, World.size_drew] at hS); refine (HP.out _ hS.f1).mono ?_; rintro e wn ⟨rfl, hB⟩; replace hS := Sx.call hB hS; clear hB; clear hc; have hc := hS.cellsL; simp only [CellsL, CellsF, Nat.zero_add, Nat.reduceAdd, and_true, true_and] at hc) | (go_at_call 27; have _t := T2; clear T2 _t; apply calls_abs (w0 := w); (repeat (first | with_reducible apply Sx.alloc | with_reducible apply Sx.drew | with_reducible apply Sx.drewN | with_reducible exact hS)); intro wx hS2; clear hS; have hS := hS2; clear hS2; (try simp only [World.size_alloc, World.size_drew] at hS); refine (HP2.out _ hS.f1).mono ?_; rintro e wn ⟨rfl, hB⟩; replace hS := Sx.call hB hS; clear hB; clear hc; have hc := hS.cellsL; simp only [CellsL, CellsF, Nat.zero_add, Nat.reduceAdd, and_true, true_and] at hc) | (go_at_call 28; (first | (with_reducible refine (HJ.out _).mono ?_) | (with_reducible refine (HJ2.out _).mono ?_)); rintro e wn ⟨rfl, rfl⟩) | (go_at_call 29; (first | (with_reducible refine (HL.out _).mono ?_) | (with_reducible refine (HL2.out _).mono ?_)); rintro e wn ⟨rfl, rfl⟩) | (go_at_call 30; apply calls_abs (w0 := w); (repeat (first | with_reducible apply Sx.alloc | with_reducible apply Sx.drew | with_reducible apply Sx.drewN | with_reducible exact hS)); intro wx hS2; clear hS; have hS := hS2; clear hS2; (try simp only [World.size_alloc, World.size_drew] at hS); refine (HX.out _).mono ?_; rintro e wn ⟨rfl, hB⟩; replace hS := Sx.call hB hS; clear hB; clear hc; have hc := hS.cellsL; simp only [CellsL, CellsF, Nat.zero_add, Nat.reduceAdd, and_true, true_and] at hc))
        obtain ⟨hb, y0, y1, y2, y3, y4⟩ := CodeAt.cells hS.f1 hpl
        go_wp2_with (first | (go_at_call 28; (first | (with_reducible refine (HJ.out _).mono ?_) | (with_reducible refine (HJ2.out _).mono ?_)); rintro e wn ⟨rfl, rfl⟩) | (go_at_call 29; (first | (with_reducible refine (HL.out _).mono ?_) | (with_reducible refine (HL2.out _).mono ?_)); rintro e wn ⟨rfl, rfl⟩))
        go_roundw
        case rel => exact ⟨k + 1, hlt, by go_num, hS.drop⟩
        case measure => simp [intOf]; omega
      · have hpn : Img.partner l k = none := by
          have h9 := hOk.partner_pk hlt
          rw [show Img.pk (Img.at_ l k) = false from by simp [Img.pk, ka, kb, kc, kd]] at h9
          exact Option.isSome_eq_false_iff.1 h9 |> Option.isNone_iff_eq_none.1
        have HP := Lib.hid (fun wx h => partner_none_ex l (some ⟨b, o, none⟩) l.length cap mem st rfl k hlt hpn wx h)
        have HJ := Lib.hid (isJ_ex (Img.at_ l k).op false ka)
        have HL := Lib.hid (isL_ex (Img.at_ l k).op false kb)
        have o32 : ((Img.at_ l k).op == 32) = false := kc
        have o33 : ((Img.at_ l k).op == 33) = false := kd
        obtain ⟨s, e2, ht, hs, hp2⟩ := hOk.call hlt ke
        have hsl := Img.partner_lt1 hp2
        have ha : (Img.at_ l k).a = (s : Int) := by
          unfold Img.tg Isa.tval at ht
          rw [kf, if_pos rfl] at ht
          exact ht
        rw [ha] at HX
        have s32 : ((Img.at_ l s).op == 32) = true := hs
        have s32n : ((Img.at_ l s).op != 32) = false := by unfold bne; rw [s32]; rfl
        have hcc : ((Img.at_ l k).op == 30) = true ∨ (((Img.at_ l k).op == 30) = false ∧ ((Img.at_ l k).op == 31) = true) := by
          unfold Img.isC at ke
          cases h : ((Img.at_ l k).op == 30)
          · rw [h] at ke; exact Or.inr ⟨rfl, ke⟩
          · exact Or.inl rfl
        clear hF hp2 hpn ka kb kc kd ke kf hV ht hs
        obtain ⟨hb, x0, x1, x2, x3, x4⟩ := CodeAt.cells hS.f1 hlt
        rcases hcc with o30 | ⟨o30, o31⟩
        all_goals
          go_upto_region 12 with (first | (go_at_call 27; apply calls_abs (w0 := w); (repeat (first | with_reducible apply Sx.alloc | with_reducible apply Sx.drew | with_reducible apply Sx.drewN | with_reducible exact hS)); intro wx hS2; clear hS; have hS := hS2; clear hS2; (try simp only [World.size_alloc, World.size_drew] at hS); refine (HP.out _ hS.f1).mono ?_; rintro e wn ⟨rfl, hB⟩; replace hS := Sx.call hB hS; clear hB; clear hc; have hc := hS.cellsL; simp only [CellsL, CellsF, Nat.zero_add, Nat.reduceAdd, and_true, true_and] at hc) | (go_at_call 28; (first | (with_reducible refine (HJ.out _).mono ?_)); rintro e wn ⟨rfl, rfl⟩) | (go_at_call 29; (first | (with_reducible refine (HL.out _).mono ?_)); rintro e wn ⟨rfl, rfl⟩) | (go_at_call 30; apply calls_abs (w0 := w); (repeat (first | with_reducible apply Sx.alloc | with_reducible apply Sx.drew | with_reducible apply Sx.drewN | with_reducible exact hS)); intro wx hS2; clear hS; have hS := hS2; clear hS2; (try simp only [World.size_alloc, World.size_drew] at hS); refine (HX.out _).mono ?_; rintro e wn ⟨rfl, hB⟩; replace hS := Sx.call hB hS; clear hB; clear hc; have hc := hS.cellsL; simp only [CellsL, CellsF, Nat.zero_add, Nat.reduceAdd, and_true, true_and] at hc))
          obtain ⟨hb, y0, y1, y2, y3, y4⟩ := CodeAt.cells hS.f1 hsl
          go_wp2
          go_roundw
          case rel => exact ⟨k + 1, hlt, by go_num, hS.drop⟩
          case measure => simp [intOf]; omega
      · have hpn : Img.partner l k = none := by
          have h9 := hOk.partner_pk hlt
          rw [show Img.pk (Img.at_ l k) = false from by simp [Img.pk, ka, kb, kc, kd]] at h9
          exact Option.isSome_eq_false_iff.1 h9 |> Option.isNone_iff_eq_none.1
        have HP := Lib.hid (fun wx h => partner_none_ex l (some ⟨b, o, none⟩) l.length cap mem st rfl k hlt hpn wx h)
        have HJ := Lib.hid (isJ_ex (Img.at_ l k).op false ka)
        have HL := Lib.hid (isL_ex (Img.at_ l k).op false kb)
        have o32 : ((Img.at_ l k).op == 32) = false := kc
        have o33 : ((Img.at_ l k).op == 33) = false := kd
        have o30 : ((Img.at_ l k).op == 30) = false := by unfold Img.isC at ke; exact (Bool.or_eq_false_iff.1 ke).1
        have o31 : ((Img.at_ l k).op == 31) = false := by unfold Img.isC at ke; exact (Bool.or_eq_false_iff.1 ke).2
        clear hF hpn ka kb kc kd ke kf hV
        obtain ⟨hb, x0, x1, x2, x3, x4⟩ := CodeAt.cells hS.f1 hlt
        go_wp2_with (first | (go_at_call 27; apply calls_abs (w0 := w); (repeat (first | with_reducible apply Sx.alloc | with_reducible apply Sx.drew | with_reducible apply Sx.drewN | with_reducible exact hS)); intro wx hS2; clear hS; have hS := hS2; clear hS2; (try simp only [World.size_alloc, World.size_drew] at hS); refine (HP.out _ hS.f1).mono ?_; rintro e wn ⟨rfl, hB⟩; replace hS := Sx.call hB hS; clear hB; clear hc; have hc := hS.cellsL; simp only [CellsL, CellsF, Nat.zero_add, Nat.reduceAdd, and_true, true_and] at hc) | (go_at_call 28; (first | (with_reducible refine (HJ.out _).mono ?_)); rintro e wn ⟨rfl, rfl⟩) | (go_at_call 29; (first | (with_reducible refine (HL.out _).mono ?_)); rintro e wn ⟨rfl, rfl⟩) | (go_at_call 30; apply calls_abs (w0 := w); (repeat (first | with_reducible apply Sx.alloc | with_reducible apply Sx.drew | with_reducible apply Sx.drewN | with_reducible exact hS)); intro wx hS2; clear hS; have hS := hS2; clear hS2; (try simp only [World.size_alloc, World.size_drew] at hS); refine (HX.out _).mono ?_; rintro e wn ⟨rfl, hB⟩; replace hS := Sx.call hB hS; clear hB; clear hc; have hc := hS.cellsL; simp only [CellsL, CellsF, Nat.zero_add, Nat.reduceAdd, and_true, true_and] at hc))
        go_roundw
        case rel => exact ⟨k + 1, hlt, by go_num, hS.drop⟩
        case measure => simp [intOf]; omega
    · obtain rfl : k = l.length := by omega
      clear hlt hk
      go_wp2
      go_ret
      exact ⟨rfl, hS.below⟩

end Go.Proofs.Yteonkfdmkgjpaaa
