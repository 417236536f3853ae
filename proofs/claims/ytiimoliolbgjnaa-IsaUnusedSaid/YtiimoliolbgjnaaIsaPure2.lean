/- Layer 21, plain: mnemonics are distinct; what an operand that is not used is in a valid instruction. -/
import Derived.Test.YtiimoliolbgjnaaIsaPure
namespace Go.Proofs.Ytiimoliolbgjnaa
namespace Isa
theorem nam_some (n : Fin 35) : nam (n.val : Int) ≠ [] := by revert n; decide
theorem nam_apart : ∀ n m : Fin 35, nam (n.val : Int) = nam (m.val : Int) → n = m := by decide
theorem nam_none {op : Int} (h : row op = none) : nam op = [] := by unfold nam; rw [h]; rfl
theorem nam_cases (op o2 : Int) : op = o2 ∨ (op ≠ o2 ∧ nam op = [] ∧ nam o2 = []) ∨ (op ≠ o2 ∧ nam op ≠ nam o2 ∧ (nam op = [] → nam o2 ≠ [])) := by
  by_cases h : op = o2
  · exact .inl h
  rcases row_range op with ⟨n, rfl⟩ | h1
  · rcases row_range o2 with ⟨m, rfl⟩ | h2
    · exact .inr (.inr ⟨h, fun e => h (by rw [nam_apart n m e]), fun e => absurd e (nam_some n)⟩)
    · exact .inr (.inr ⟨h, fun e => nam_some n (by rw [e, nam_none h2]), fun e => absurd e (nam_some n)⟩)
  · rcases row_range o2 with ⟨m, rfl⟩ | h2
    · exact .inr (.inr ⟨h, fun e => nam_some m (by rw [← e, nam_none h1]), fun _ => nam_some m⟩)
    · exact .inr (.inl ⟨h, nam_none h1, nam_none h2⟩)
theorem nam_vld {op a b c d : Int} (h : nam op = []) : vld op a b c d = false := by
  rcases row_range op with ⟨n, rfl⟩ | h1
  · exact absurd h (nam_some n)
  · unfold vld; rw [h1]; rfl
theorem vld_unused {op a b c d : Int} (h : vld op a b c d = true) (k : Nat) (hk : k < 4) (hn : (ops op).length ≤ k) : operand a b c d k = 0 := by
  cases ho : okAt (ops op) k (operand a b c d k) with
  | false => rw [vld_bad hk ho] at h; cases h
  | true =>
    unfold okAt at ho
    rw [if_neg (by omega)] at ho
    simpa using ho
end Isa
end Go.Proofs.Ytiimoliolbgjnaa
