/- strings.Count at one byte returns how often that byte occurs: for every string and every byte. -/
import Derived.Test.YtpommkpgiogjgaaX0
import Derived.Lib.Bytealg
import Derived.Laws.Externs
namespace Go.Proofs.Ytpommkpgiogjgaa.X
open Go.RowKit Go.Proofs.YtpommkpgiogjgaaW.PrintWords Go.Proofs.YtpommkpgiogjgaaW.PrintLast Go.Proofs.YtpommkpgiogjgaaW.PrintMore
set_option linter.unusedVariables false
set_option linter.unusedSimpArgs false

/-- how often the one byte occurs -/
def strings_Count.f (a0 : ByteArray) (a1 : ByteArray) : Option Int :=
  if a1.size = 1 then some ((a0.data.toList.count (a1.data.toList.getD 0 0) : Nat) : Int) else none
set_option maxHeartbeats 1000000 in
set_option maxRecDepth 100000 in
theorem strings_Count.one (s : ByteArray) (c : UInt8) (w : World) :
    Calls Try.prog 41 #[.string s, .string ⟨#[c]⟩] w fun e w' => e = .returned (.int .i64 (Lib.countByte s.data.toList c)) ∧ w = w' := by
  go_enter Try.func41, Try.ntmps41
  go_wp2
  rw [run_callFunc_extern Try.func45 (by kernel_rfl) (by kernel_rfl) (by kernel_rfl) (e := Extern.BytealgCount.count) (by kernel_rfl), Lib.run_countString]
  simp only [Result.andThen]
  rw [Oper.upon_value]
  go_wp2
  go_ret
  exact ⟨rfl, rfl⟩
theorem strings_Count.calls (a0 : ByteArray) (a1 : ByteArray) (r : Int) (w : World) (h : strings_Count.f a0 a1 = some r) :
    Calls Try.prog 41 #[.string a0, .string a1] w fun e w' => e = .returned (.int .i64 r) ∧ Drawn0 w w' := by
  unfold strings_Count.f at h
  split at h
  · rename_i hs
    obtain ⟨⟨l⟩⟩ := a1
    match l, hs with
    | [c], _ =>
      refine (strings_Count.one a0 c w).mono ?_
      rintro e w' ⟨rfl, rfl⟩
      exact ⟨by rw [← Option.some.inj h]; rfl, Drawn0.refl _⟩
  · cases h
end Go.Proofs.Ytpommkpgiogjgaa.X
