/- The examples of the chapter are found by the program: the check of the known answers returns true. -/
import Derived.Test.YtpommkpgiogjgaaX6
set_option linter.unusedVariables false
namespace Go.Proofs.Ytpommkpgiogjgaa.X
open Go.RowKit Go.Proofs.YtpommkpgiogjgaaW.PrintWords Go.Proofs.YtpommkpgiogjgaaW.PrintLast Go.Proofs.YtpommkpgiogjgaaW.PrintMore
theorem known_true : schismalaw34_known.f 20 = some true := by kernel_rfl
/-- more rounds tell the same -/
theorem mono_add {α : Type} {f : Nat → Option α} (hm : ∀ k, LeO (f k) (f (k + 1))) {k : Nat} {r : α} (h : f k = some r) : ∀ n, k ≤ n → f n = some r := by
  intro n hn
  obtain ⟨d, rfl⟩ := Nat.exists_eq_add_of_le hn
  induction d with
  | zero => exact h
  | succ d ih => exact hm (k + d) r (ih (by omega))
theorem known_all (k : Nat) (h : 20 ≤ k) : schismalaw34_known.f k = some true := mono_add (f := schismalaw34_known.f) (fun k => schismalaw34_known.mono k) known_true k h
end Go.Proofs.Ytpommkpgiogjgaa.X
