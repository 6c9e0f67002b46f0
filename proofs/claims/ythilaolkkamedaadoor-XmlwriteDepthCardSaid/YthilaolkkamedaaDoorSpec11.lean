/-
  Plain laws of chapter 9: the two forms of validity. No program.
-/
import Derived.Test.YthilaolkkamedaaDoorSpec09
set_option linter.unusedVariables false
namespace Go.Proofs.YthilaolkkamedaaDoor

mutual
theorem vld_any : ∀ (n : Node) (d e : Nat), vld false n d = vld false n e
  | .mk k s nm ats ks t p, d, e => by
    rw [vld, vld, vldL_any ks d e false]; simp
theorem vldL_any : ∀ (ks : List Node) (d e : Nat) (b : Bool), vldL false ks d b = vldL false ks e b
  | [], _, _, _ => by rw [vldL, vldL]
  | k :: ks, d, e, b => by rw [vldL, vldL, vld_any k (d + 1) (e + 1), vldL_any ks d e]
end
end Go.Proofs.YthilaolkkamedaaDoor
