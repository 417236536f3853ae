/- The walks of the laws of layer 21: each returns true. -/
import Derived.Test.YtiimoliolbgjnaaIsaA
import Derived.Test.YtiimoliolbgjnaaIsaR1
import Derived.Test.YtiimoliolbgjnaaLaw
import Derived.Deep.RegionHeld3
import Derived.BigQuiet
import Derived.Deep.QuietTactic
namespace Go.Proofs.Ytiimoliolbgjnaa
open Go.RowKit
set_option linter.unusedVariables false
set_option linter.unusedSimpArgs false

set_option maxHeartbeats 8000000 in
theorem isaNames_walk (op : Int) (ho : U8 op) (w : World) :
    Calls Try.prog 6 #[.int .u8 op] w fun e w' => e = .returned (.bool true) ∧ Below w.heap.size w w' := by
  have ho0 := ho.1
  have ho1 := ho.2
  have hcase : op = 22 ∨ op = 23 ∨ op = 24 ∨ op = 25 ∨ op = 26 ∨ op = 27 ∨ ((op == 22) = false ∧ (op == 23) = false ∧ (op == 24) = false ∧ (op == 25) = false ∧ (op == 26) = false ∧ (op == 27) = false) := by
    by_cases a1 : op = 22
    · exact .inl a1
    by_cases a2 : op = 23
    · exact .inr (.inl a2)
    by_cases a3 : op = 24
    · exact .inr (.inr (.inl a3))
    by_cases a4 : op = 25
    · exact .inr (.inr (.inr (.inl a4)))
    by_cases a5 : op = 26
    · exact .inr (.inr (.inr (.inr (.inl a5))))
    by_cases a6 : op = 27
    · exact .inr (.inr (.inr (.inr (.inr (.inl a6)))))
    exact .inr (.inr (.inr (.inr (.inr (.inr ⟨beq_eq_false_iff_ne.2 a1, beq_eq_false_iff_ne.2 a2, beq_eq_false_iff_ne.2 a3, beq_eq_false_iff_ne.2 a4, beq_eq_false_iff_ne.2 a5, beq_eq_false_iff_ne.2 a6⟩)))))
  have H0 := Lib.hid ho0
  have H1 := Lib.hid ho1
  clear ho0 ho1 ho
  have hs : ((⟨(Isa.nam op).toArray⟩ : ByteArray) == ⟨(Isa.nam op).toArray⟩) = true := (MapKept.bytes_beq _ _).2 rfl
  obtain rfl | rfl | rfl | rfl | rfl | rfl | ⟨b1, b2, b3, b4, b5, b6⟩ := hcase
  · have hj : Isa.isJ 22 = true := rfl
    have hl : Isa.isL 22 = false := rfl
    have hZ := Below.refl w.heap.size w
    go_enter Try.func6, Try.ntmps6
    go_wp2_with (first | (go_at_call 11; refine (isaAwake_any _).mono ?_; rintro e wn ⟨rfl, hB⟩; have hZ := Below_then (by assumption) hB) | (go_at_call 18; refine (rshape_any _ H0.out _).mono ?_; rintro e wn ⟨rfl, rfl⟩) | (go_at_call 17; refine (mnemonic_any _ _).mono ?_; rintro e wn ⟨rfl, hB⟩; have hZ := Below_then (by assumption) hB) | (go_at_call 19; refine (rmnemonic_any _ H0.out H1.out _).mono ?_; rintro e wn ⟨rfl, hB⟩; have hZ := Below_then (by assumption) hB) | (go_at_call 16; refine (operands_any _ _).mono ?_; rintro e wn ⟨rfl, hB⟩; have hZ := Below_then (by assumption) hB) | (go_at_call 20; refine (isJump_any _ _).mono ?_; rintro e wn ⟨rfl, rfl⟩) | (go_at_call 21; refine (isLanding_any _ _).mono ?_; rintro e wn ⟨rfl, rfl⟩))
    go_ret
    exact ⟨rfl, by assumption⟩
  · have hj : Isa.isJ 23 = true := rfl
    have hl : Isa.isL 23 = false := rfl
    have hZ := Below.refl w.heap.size w
    go_enter Try.func6, Try.ntmps6
    go_wp2_with (first | (go_at_call 11; refine (isaAwake_any _).mono ?_; rintro e wn ⟨rfl, hB⟩; have hZ := Below_then (by assumption) hB) | (go_at_call 18; refine (rshape_any _ H0.out _).mono ?_; rintro e wn ⟨rfl, rfl⟩) | (go_at_call 17; refine (mnemonic_any _ _).mono ?_; rintro e wn ⟨rfl, hB⟩; have hZ := Below_then (by assumption) hB) | (go_at_call 19; refine (rmnemonic_any _ H0.out H1.out _).mono ?_; rintro e wn ⟨rfl, hB⟩; have hZ := Below_then (by assumption) hB) | (go_at_call 16; refine (operands_any _ _).mono ?_; rintro e wn ⟨rfl, hB⟩; have hZ := Below_then (by assumption) hB) | (go_at_call 20; refine (isJump_any _ _).mono ?_; rintro e wn ⟨rfl, rfl⟩) | (go_at_call 21; refine (isLanding_any _ _).mono ?_; rintro e wn ⟨rfl, rfl⟩))
    go_ret
    exact ⟨rfl, by assumption⟩
  · have hj : Isa.isJ 24 = true := rfl
    have hl : Isa.isL 24 = false := rfl
    have hZ := Below.refl w.heap.size w
    go_enter Try.func6, Try.ntmps6
    go_wp2_with (first | (go_at_call 11; refine (isaAwake_any _).mono ?_; rintro e wn ⟨rfl, hB⟩; have hZ := Below_then (by assumption) hB) | (go_at_call 18; refine (rshape_any _ H0.out _).mono ?_; rintro e wn ⟨rfl, rfl⟩) | (go_at_call 17; refine (mnemonic_any _ _).mono ?_; rintro e wn ⟨rfl, hB⟩; have hZ := Below_then (by assumption) hB) | (go_at_call 19; refine (rmnemonic_any _ H0.out H1.out _).mono ?_; rintro e wn ⟨rfl, hB⟩; have hZ := Below_then (by assumption) hB) | (go_at_call 16; refine (operands_any _ _).mono ?_; rintro e wn ⟨rfl, hB⟩; have hZ := Below_then (by assumption) hB) | (go_at_call 20; refine (isJump_any _ _).mono ?_; rintro e wn ⟨rfl, rfl⟩) | (go_at_call 21; refine (isLanding_any _ _).mono ?_; rintro e wn ⟨rfl, rfl⟩))
    go_ret
    exact ⟨rfl, by assumption⟩
  · have hj : Isa.isJ 25 = false := rfl
    have hl : Isa.isL 25 = true := rfl
    have hZ := Below.refl w.heap.size w
    go_enter Try.func6, Try.ntmps6
    go_wp2_with (first | (go_at_call 11; refine (isaAwake_any _).mono ?_; rintro e wn ⟨rfl, hB⟩; have hZ := Below_then (by assumption) hB) | (go_at_call 18; refine (rshape_any _ H0.out _).mono ?_; rintro e wn ⟨rfl, rfl⟩) | (go_at_call 17; refine (mnemonic_any _ _).mono ?_; rintro e wn ⟨rfl, hB⟩; have hZ := Below_then (by assumption) hB) | (go_at_call 19; refine (rmnemonic_any _ H0.out H1.out _).mono ?_; rintro e wn ⟨rfl, hB⟩; have hZ := Below_then (by assumption) hB) | (go_at_call 16; refine (operands_any _ _).mono ?_; rintro e wn ⟨rfl, hB⟩; have hZ := Below_then (by assumption) hB) | (go_at_call 20; refine (isJump_any _ _).mono ?_; rintro e wn ⟨rfl, rfl⟩) | (go_at_call 21; refine (isLanding_any _ _).mono ?_; rintro e wn ⟨rfl, rfl⟩))
    go_ret
    exact ⟨rfl, by assumption⟩
  · have hj : Isa.isJ 26 = false := rfl
    have hl : Isa.isL 26 = true := rfl
    have hZ := Below.refl w.heap.size w
    go_enter Try.func6, Try.ntmps6
    go_wp2_with (first | (go_at_call 11; refine (isaAwake_any _).mono ?_; rintro e wn ⟨rfl, hB⟩; have hZ := Below_then (by assumption) hB) | (go_at_call 18; refine (rshape_any _ H0.out _).mono ?_; rintro e wn ⟨rfl, rfl⟩) | (go_at_call 17; refine (mnemonic_any _ _).mono ?_; rintro e wn ⟨rfl, hB⟩; have hZ := Below_then (by assumption) hB) | (go_at_call 19; refine (rmnemonic_any _ H0.out H1.out _).mono ?_; rintro e wn ⟨rfl, hB⟩; have hZ := Below_then (by assumption) hB) | (go_at_call 16; refine (operands_any _ _).mono ?_; rintro e wn ⟨rfl, hB⟩; have hZ := Below_then (by assumption) hB) | (go_at_call 20; refine (isJump_any _ _).mono ?_; rintro e wn ⟨rfl, rfl⟩) | (go_at_call 21; refine (isLanding_any _ _).mono ?_; rintro e wn ⟨rfl, rfl⟩))
    go_ret
    exact ⟨rfl, by assumption⟩
  · have hj : Isa.isJ 27 = false := rfl
    have hl : Isa.isL 27 = true := rfl
    have hZ := Below.refl w.heap.size w
    go_enter Try.func6, Try.ntmps6
    go_wp2_with (first | (go_at_call 11; refine (isaAwake_any _).mono ?_; rintro e wn ⟨rfl, hB⟩; have hZ := Below_then (by assumption) hB) | (go_at_call 18; refine (rshape_any _ H0.out _).mono ?_; rintro e wn ⟨rfl, rfl⟩) | (go_at_call 17; refine (mnemonic_any _ _).mono ?_; rintro e wn ⟨rfl, hB⟩; have hZ := Below_then (by assumption) hB) | (go_at_call 19; refine (rmnemonic_any _ H0.out H1.out _).mono ?_; rintro e wn ⟨rfl, hB⟩; have hZ := Below_then (by assumption) hB) | (go_at_call 16; refine (operands_any _ _).mono ?_; rintro e wn ⟨rfl, hB⟩; have hZ := Below_then (by assumption) hB) | (go_at_call 20; refine (isJump_any _ _).mono ?_; rintro e wn ⟨rfl, rfl⟩) | (go_at_call 21; refine (isLanding_any _ _).mono ?_; rintro e wn ⟨rfl, rfl⟩))
    go_ret
    exact ⟨rfl, by assumption⟩
  · have hj : Isa.isJ op = false := by simp [Isa.isJ, *]
    have hl : Isa.isL op = false := by simp [Isa.isL, *]
    have hZ := Below.refl w.heap.size w
    go_enter Try.func6, Try.ntmps6
    go_wp2_with (first | (go_at_call 11; refine (isaAwake_any _).mono ?_; rintro e wn ⟨rfl, hB⟩; have hZ := Below_then (by assumption) hB) | (go_at_call 18; refine (rshape_any _ H0.out _).mono ?_; rintro e wn ⟨rfl, rfl⟩) | (go_at_call 17; refine (mnemonic_any _ _).mono ?_; rintro e wn ⟨rfl, hB⟩; have hZ := Below_then (by assumption) hB) | (go_at_call 19; refine (rmnemonic_any _ H0.out H1.out _).mono ?_; rintro e wn ⟨rfl, hB⟩; have hZ := Below_then (by assumption) hB) | (go_at_call 16; refine (operands_any _ _).mono ?_; rintro e wn ⟨rfl, hB⟩; have hZ := Below_then (by assumption) hB) | (go_at_call 20; refine (isJump_any _ _).mono ?_; rintro e wn ⟨rfl, rfl⟩) | (go_at_call 21; refine (isLanding_any _ _).mono ?_; rintro e wn ⟨rfl, rfl⟩))
    go_ret
    exact ⟨rfl, by assumption⟩
end Go.Proofs.Ytiimoliolbgjnaa
