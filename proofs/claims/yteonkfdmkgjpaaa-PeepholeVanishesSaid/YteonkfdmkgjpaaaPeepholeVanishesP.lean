/- For every input the law PeepholeVanishes returns true, and its arguments read as they did. No condition. -/
import Derived.Test.YteonkfdmkgjpaaaPeeL6
import Derived.Test.YteonkfdmkgjpaaaLaw
import Derived.Test.YteonkfdmkgjpaaaOpen
namespace Go.Proofs.Yteonkfdmkgjpaaa.peepholeVanishes
open Go.ChangeShapes Go.WideShapes Go.ChangeAt Go.RowKit Go.Joins
set_option linter.unusedVariables false

theorem contract (H : Type) (enc : TypeId × Value → H) (W : World) (base : Nat) (args : Array Value) (ds gs : List (DataW H)) (before : List MemPlace)
    (hval : ∀ (j : Nat) t v, Try.f13.params[j]? = some t → args[j]? = some v → Value.okWide Try.prog W .any base t v)
    (hW : DataW.Whole enc Try.prog Try.f13.params.toList Rows.peepholeVanishesSpec.vars false W args.toList ds gs before) :
    Calls Try.prog 13 args W fun e W' => ∃ v, e = .returned v ∧ Rows.peepholeVanishesSpec.post enc Try.prog Try.f13 false true false false W args v W' := by
  have hW' := hW
  obtain ⟨p, q, hA0, hV, hpq, hfz, hnd⟩ := hW
  have hA : DataW.TrodAll enc Try.prog W 0 (fun _ => true) true Try.f13.params.toList args.toList ds p := hA0
  rw [Try.params13] at hA hval
  obtain ⟨v0, vs0, d0, ds0, p0, q0, hargs, rfl, rfl, h0, r0⟩ := trodAll_cons hA
  obtain ⟨v1, vs1, d1, ds1, p1, q1, rfl, rfl, rfl, h1, r1⟩ := trodAll_cons r0
  obtain ⟨v2, vs2, d2, ds2, p2, q2, rfl, rfl, rfl, h2, r2⟩ := trodAll_cons r1
  obtain ⟨rfl, rfl, rfl⟩ := trodAll_nil r2
  obtain rfl : args = #[v0, v1, v2] := by cases args; simp_all
  obtain ⟨rfl, rfl⟩ := trodVars_none hV
  obtain ⟨l0, A0, c0, m0, s0, rfl, k0a, k0b, k0c, k0m, k0s⟩ := open_image (hval 0 24 v0 rfl rfl) h0
  obtain ⟨aa1, ln1, cp1, rfl⟩ := okWide_slice Try.underlying22 (hval 1 22 v1 rfl rfl)
  obtain ⟨f1, hf1⟩ := h1
  obtain ⟨l1, A1, c1, hse1, k1a, k1b, k1c⟩ := open_code hf1
  injection hse1 with qa1 qb1 qc1
  subst qa1 qb1 qc1
  obtain ⟨x2, rfl, -, -, w2⟩ := open_int Try.underlying5 (hval 2 5 v2 rfl rfl) h2
  refine (peepholeVanishes_walk l0 A0 c0 m0 s0 l1 _ _ x2 W k0a k0b k0c k1a k1b k1c (U8.of w2)).mono fun e W' ⟨he, hB⟩ => ?_
  subst he
  exact ⟨_, rfl, law_post Try.laidOut (by kernel_rfl) rfl Try.underlying4 rfl hW' rfl hB⟩

set_option maxRecDepth 100000 in
theorem lifted (os : Os) (started : os.Started) (H : Type) (enc : TypeId × Value → H) :
    ReturnsInHanded {} Try.checked os 13 .any (Rows.peepholeVanishesSpec.pre6 enc Try.prog Try.f13 Rows.peepholeVanishesRow.domain false) (Rows.peepholeVanishesSpec.post enc Try.prog Try.f13 false true false false) := by
  refine returnsInHanded_of_change (C := Try.checked) Try.own started (by kernel_rfl) Try.func13
    (ChangeSpec.witness6 (enc := enc) (C := Try.checked) false ⟨#[], #[.agg #[.slice none 0 0, .int .i64 0, .int .i64 0], .slice none 0 0, .int .u8 0], []⟩ 8 (by kernel_rfl) (by kernel_rfl) (by kernel_rfl) (by kernel_rfl)) ?_
  intro W base args ds gs before hval hW hcnd _
  exact contract H enc W base args ds gs before hval hW

theorem proved : Rows.PeepholeVanishesSaid :=
  OpenClaim.holds_of_wide 13 Try.f13 rfl rfl rfl rfl rfl rfl rfl ⟨rfl, rfl, rfl, rfl, rfl⟩ rfl rfl rfl rfl rfl (by kernel_rfl) Try.func13 (by kernel_rfl)
    (of_decide_eq_true (by kernel_rfl)) (by unfold Func.isWrapper; first | (rw [if_pos (by decide +kernel)]; kernel_rfl) | (rw [if_neg (by decide +kernel)]; exact ⟨rfl, rfl⟩))
    (fun os started H enc _ => lifted os started H enc)

#print axioms proved
end Go.Proofs.Yteonkfdmkgjpaaa.peepholeVanishes
