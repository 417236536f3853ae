/- A region that draws its order, whose operations yield one value each in every world of a class, and leave a world of the class: one walk in the order of the text. -/
import Derived.Test.YteonkfdmkgjpaaaAuto
import Derived.BigQuiet
import Derived.Deep.QuietTactic
namespace Go.Proofs.Yteonkfdmkgjpaaa
open Go.RowKit
set_option linter.unusedVariables false
section
variable {P : Program} {ops : Array Oper} {C : World → Prop} {K : Act → Prop} {a : Act} {o : Oper} {v : Value}
theorem calm_val (h : ∀ w, C w → (execOp a.eval o).run P w = .ok (.value v) w) (hk : K (a.put o.dst v)) : o.quiet P a C K :=
  ⟨v, fun w hw => by unfold Oper.quietAt; rw [h w hw]; exact ⟨rfl, rfl⟩, hk⟩
theorem calm_call {f : FuncId} {args : Array Value} (h : ∀ w, C w → (execOp a.eval o).run P w = .ok (.enter f args) w) (hc : ∀ w, C w → Calls P f args w fun e w' => e = .returned v ∧ C w') (hk : K (a.put o.dst v)) : o.quiet P a C K :=
  ⟨v, fun w hw => by unfold Oper.quietAt; rw [h w hw]; exact ⟨rfl, hc w hw⟩, hk⟩
theorem calm_val' (h : ∃ v, (∀ w, C w → (execOp a.eval o).run P w = .ok (.value v) w) ∧ K (a.put o.dst v)) : o.quiet P a C K := let ⟨_, h1, h2⟩ := h; calm_val h1 h2
theorem calm_call' (h : ∃ f args v, (∀ w, C w → (execOp a.eval o).run P w = .ok (.enter f args) w) ∧ (∀ w, C w → Calls P f args w fun e w' => e = .returned v ∧ C w') ∧ K (a.put o.dst v)) : o.quiet P a C K := let ⟨_, _, _, h1, h2, h3⟩ := h; calm_call h1 h2 h3
theorem wp_region_calm {id : Nat} {Q : Exit → Act → World → Prop} {w : World} {l : List Oper} (C : World → Prop) (hm : P.follows .mixedOrders = true) (hB : Region.lexB .any l.toArray = true) (hC : C w.drew)
    (h : wpQuiet P l.toArray C (fun a' => ∀ w', C w' → Q .normal a' w') l a) : (Code.region id l.toArray true).wp P Q a w :=
  wp_region_quiet hm hB hC (by simpa using h)
end
end Go.Proofs.Yteonkfdmkgjpaaa
