/- For every input the law PeepholeCancels returns true, and its arguments read as they did. No condition. -/
import Derived.Test.YteonkfdmkgjpaaaPeeL1
import Derived.Test.YteonkfdmkgjpaaaLaw
namespace Go.Proofs.Yteonkfdmkgjpaaa.peepholeCancels
open Go.ChangeShapes Go.WideShapes Go.ChangeAt Go.RowKit Go.Joins
set_option linter.unusedVariables false

theorem contract (H : Type) (enc : TypeId × Value → H) (W : World) (base : Nat) (args : Array Value) (ds gs : List (DataW H)) (before : List MemPlace)
    (hval : ∀ (j : Nat) t v, Try.f12.params[j]? = some t → args[j]? = some v → Value.okWide Try.prog W .any base t v)
    (hW : DataW.Whole enc Try.prog Try.f12.params.toList Rows.peepholeCancelsSpec.vars false W args.toList ds gs before) :
    Calls Try.prog 12 args W fun e W' => ∃ v, e = .returned v ∧ Rows.peepholeCancelsSpec.post enc Try.prog Try.f12 false true false false W args v W' := by
  have hW' := hW
  obtain ⟨p, q, hA0, hV, hpq, hfz, hnd⟩ := hW
  have hA : DataW.TrodAll enc Try.prog W 0 (fun _ => true) true Try.f12.params.toList args.toList ds p := hA0
  rw [Try.params12] at hA hval
  obtain ⟨v0, vs0, d0, ds0, p0, q0, hargs, rfl, rfl, h0, r0⟩ := trodAll_cons hA
  obtain ⟨v1, vs1, d1, ds1, p1, q1, rfl, rfl, rfl, h1, r1⟩ := trodAll_cons r0
  obtain ⟨rfl, rfl, rfl⟩ := trodAll_nil r1
  obtain rfl : args = #[v0, v1] := by cases args; simp_all
  obtain ⟨rfl, rfl⟩ := trodVars_none hV
  obtain ⟨o0, a0, b0, c0, e0, rfl, g0o, g0a, g0b, g0c, g0e⟩ := open_instr (hval 0 38 v0 rfl rfl) h0
  obtain ⟨o1, a1, b1, c1, e1, rfl, g1o, g1a, g1b, g1c, g1e⟩ := open_instr (hval 1 38 v1 rfl rfl) h1
  refine (peepholeCancels_walk o0 a0 b0 c0 e0 o1 a1 b1 c1 e1 g0o g0a g0b g0c g0e g1o g1a g1b g1c g1e W).mono fun e W' ⟨he, hB⟩ => ?_
  subst he
  exact ⟨_, rfl, law_post Try.laidOut (by kernel_rfl) rfl Try.underlying4 rfl hW' rfl hB⟩

set_option maxRecDepth 100000 in
theorem lifted (os : Os) (started : os.Started) (H : Type) (enc : TypeId × Value → H) :
    ReturnsInHanded {} Try.checked os 12 .any (Rows.peepholeCancelsSpec.pre6 enc Try.prog Try.f12 Rows.peepholeCancelsRow.domain false) (Rows.peepholeCancelsSpec.post enc Try.prog Try.f12 false true false false) := by
  refine returnsInHanded_of_change (C := Try.checked) Try.own started (by kernel_rfl) Try.func12
    (ChangeSpec.witness6 (enc := enc) (C := Try.checked) false ⟨#[], #[.agg #[.int .u8 0, .int .i64 0, .int .i64 0, .int .i64 0, .int .i64 0], .agg #[.int .u8 0, .int .i64 0, .int .i64 0, .int .i64 0, .int .i64 0]], []⟩ 8 (by kernel_rfl) (by kernel_rfl) (by kernel_rfl) (by kernel_rfl)) ?_
  intro W base args ds gs before hval hW hcnd _
  exact contract H enc W base args ds gs before hval hW

theorem proved : Rows.PeepholeCancelsSaid :=
  OpenClaim.holds_of_wide 12 Try.f12 rfl rfl rfl rfl rfl rfl rfl ⟨rfl, rfl, rfl, rfl, rfl⟩ rfl rfl rfl rfl rfl (by kernel_rfl) Try.func12 (by kernel_rfl)
    (of_decide_eq_true (by kernel_rfl)) (by unfold Func.isWrapper; first | (rw [if_pos (by decide +kernel)]; kernel_rfl) | (rw [if_neg (by decide +kernel)]; exact ⟨rfl, rfl⟩))
    (fun os started H enc _ => lifted os started H enc)

#print axioms proved
end Go.Proofs.Yteonkfdmkgjpaaa.peepholeCancels
