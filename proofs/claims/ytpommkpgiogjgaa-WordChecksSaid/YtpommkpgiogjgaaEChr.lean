/- word.Christoffel returns the Christoffel word of two numbers, or ErrRange: for any two numbers. -/
import Derived.Test.YtpommkpgiogjgaaEBuild
import Derived.Test.YtpommkpgiogjgaaEShelf
import Derived.Test.YtpommkpgiogjgaaX0
set_option linter.unusedVariables false
set_option linter.unusedSimpArgs false
namespace Go.Proofs.Ytpommkpgiogjgaa.X
open Go.RowKit Go.Proofs.YtpommkpgiogjgaaW.PrintWords Go.Proofs.YtpommkpgiogjgaaW.PrintLast Go.Proofs.YtpommkpgiogjgaaW.PrintMore

/-- the letters of the Christoffel word with a letters a and b letters b -/
def chrW (a b : Nat) : List UInt8 := (List.range (a + b)).map fun i => if i * b / (a + b) < (i + 1) * b / (a + b) then 98 else 97
def word_Christoffel.f (a0 : Int) (a1 : Int) : Option (ByteArray × Int) :=
  if 0 ≤ a0 ∧ 0 ≤ a1 ∧ a0 ≤ 60 ∧ a1 ≤ 60 ∧ 1 ≤ a0 + a1 ∧ a0 + a1 ≤ 60 then some (⟨(chrW a0.toNat a1.toNat).toArray⟩, 0) else some (⟨#[]⟩, 3)

theorem chr_step (f : Nat → UInt8) (i : Nat) : (List.range (i + 1)).map f = (List.range i).map f ++ [f i] := by
  rw [List.range_succ, List.map_append]; rfl

theorem chr_int (a b i : Nat) : ((i : Int) * (b : Int) / ((a : Int) + (b : Int)) < ((i : Int) + 1) * (b : Int) / ((a : Int) + (b : Int))) ↔ (i * b / (a + b) < (i + 1) * b / (a + b)) := by
  constructor <;> intro h <;> exact_mod_cast h
theorem byteCells_snoc (l : List UInt8) (c : UInt8) : Lib.byteCells l ++ [.int .u8 (c.toNat : Int)] = Lib.byteCells (l ++ [c]) := by simp [Lib.byteCells]
theorem byteCells_length (l : List UInt8) : (Lib.byteCells l).length = l.length := by simp [Lib.byteCells]
/-- the first letters -/
def chrL (a b i : Nat) : List UInt8 := (List.range i).map fun i => if i * b / (a + b) < (i + 1) * b / (a + b) then 98 else 97
theorem chrL_length (a b i : Nat) : (chrL a b i).length = i := by simp [chrL]
theorem chrL_b {a b i : Nat} (h : i * b / (a + b) < (i + 1) * b / (a + b)) : chrL a b (i + 1) = chrL a b i ++ [98] := by
  unfold chrL; rw [chr_step, if_pos h]
theorem chrL_a {a b i : Nat} (h : ¬ i * b / (a + b) < (i + 1) * b / (a + b)) : chrL a b (i + 1) = chrL a b i ++ [97] := by
  unfold chrL; rw [chr_step, if_neg h]
set_option maxHeartbeats 4000000 in
set_option maxRecDepth 100000 in
theorem word_Christoffel.yes (a b : Nat) (w : World) (hs : 1 ≤ a + b) (ht : a + b ≤ 60) :
    Calls Try.prog 15 #[.int .i64 (a : Int), .int .i64 (b : Int)] w fun e w' => e = .returned (.tuple #[.string ⟨(chrW a b).toArray⟩, .int .i64 0]) ∧ Below w.heap.size w w' := by
  show Calls _ _ _ _ fun e w' => e = .returned (.tuple #[.string ⟨(chrL a b (a + b)).toArray⟩, .int .i64 0]) ∧ _
  have g1 : decide ((a : Int) < 0) = false := decide_eq_false (by omega)
  have g2 : decide ((b : Int) < 0) = false := decide_eq_false (by omega)
  have g3 : decide (60 < (a : Int)) = false := decide_eq_false (by omega)
  have g4 : decide (60 < (b : Int)) = false := decide_eq_false (by omega)
  have g5 : decide ((a : Int) + (b : Int) < 1) = false := decide_eq_false (by omega)
  have g6 : decide (60 < (a : Int) + (b : Int)) = false := decide_eq_false (by omega)
  go_enter Try.func15, Try.ntmps15
  go_wp2
  have HF := Aside0.mk (Lib.fresh_isBuilder 75 5 w)
  go_loopw [39] (fun v w' => ∃ i : Nat, i ≤ a + b ∧ v = .int .i64 i ∧ Aside0 (Lib.IsBuilder 75 5 w.heap.size w.heap.size (Lib.byteCells (chrL a b i)) w') ∧ Aside0 (Below w.heap.size w w')) (fun v _ => (60 - intOf v).toNat)
  case atStart => exact ⟨0, by omega, rfl, HF, ⟨(Below.refl _ _).alloc (Nat.le_refl _) _⟩⟩
  case round =>
    obtain ⟨i, hi, rfl, hI, hB⟩ := hrel
    clear HF
    by_cases hlt : i < a + b
    · have m1 : i * b ≤ 60 * 60 := Nat.mul_le_mul (by omega) (by omega)
      have m2 : (i + 1) * b ≤ 60 * 60 := Nat.mul_le_mul (by omega) (by omega)
      have n1 : 0 ≤ (i : Int) * (b : Int) := by rw [← Int.natCast_mul]; omega
      have n2 : (i : Int) * (b : Int) ≤ 3600 := by rw [← Int.natCast_mul]; omega
      have n3 : 0 ≤ ((i : Int) + 1) * (b : Int) := by rw [show ((i : Int) + 1) = ((i + 1 : Nat) : Int) by omega, ← Int.natCast_mul]; omega
      have n4 : ((i : Int) + 1) * (b : Int) ≤ 3600 := by rw [show ((i : Int) + 1) = ((i + 1 : Nat) : Int) by omega, ← Int.natCast_mul]; omega
      clear m1 m2
      have c0 : decide ((i : Int) < (a : Int) + (b : Int)) = true := decide_eq_true (by omega)
      by_cases hc : i * b / (a + b) < (i + 1) * b / (a + b)
      · have e1 : decide ((i : Int) * (b : Int) / ((a : Int) + (b : Int)) < ((i : Int) + 1) * (b : Int) / ((a : Int) + (b : Int))) = true := decide_eq_true ((chr_int a b i).mpr hc)
        have HC := Aside0.mk hc
        clear hc
        go_wp2
        go_quiet (fail)
        go_wp2_with fail
        refine (writeByte w.heap.size w.heap.size (Lib.byteCells (chrL a b i)) 98 _ ?h1 ?h2 ?h3).mono ?_
        case h1 => exact hI.out
        case h2 => rw [byteCells_length, chrL_length]; omega
        case h3 => exact hB.out.size
        rintro e w' ⟨rfl, hI2, hB2⟩
        have HI2 := Aside0.mk (Or.inr hI2 : Lib.IsBuilder 75 5 w.heap.size w.heap.size (Lib.byteCells (chrL a b i) ++ [.int .u8 ((98 : UInt8).toNat : Int)]) w')
        have HB2 := Aside0.mk ((pw_below_drewN hB.out nq).trans hB2)
        clear hI2 hB2 hI hB
        rw [byteCells_snoc, ← chrL_b HC.out] at HI2
        go_wp2
        go_roundw
        case rel => exact ⟨i + 1, by omega, by go_num, HI2, HB2⟩
        case measure => simp [intOf]; omega
      · have e1 : decide ((i : Int) * (b : Int) / ((a : Int) + (b : Int)) < ((i : Int) + 1) * (b : Int) / ((a : Int) + (b : Int))) = false := decide_eq_false (fun h => hc ((chr_int a b i).mp h))
        have HC := Aside0.mk hc
        clear hc
        go_wp2
        go_quiet (fail)
        go_wp2_with fail
        refine (writeByte w.heap.size w.heap.size (Lib.byteCells (chrL a b i)) 97 _ ?h1 ?h2 ?h3).mono ?_
        case h1 => exact hI.out
        case h2 => rw [byteCells_length, chrL_length]; omega
        case h3 => exact hB.out.size
        rintro e w' ⟨rfl, hI2, hB2⟩
        have HI2 := Aside0.mk (Or.inr hI2 : Lib.IsBuilder 75 5 w.heap.size w.heap.size (Lib.byteCells (chrL a b i) ++ [.int .u8 ((97 : UInt8).toNat : Int)]) w')
        have HB2 := Aside0.mk ((pw_below_drewN hB.out nq).trans hB2)
        clear hI2 hB2 hI hB
        rw [byteCells_snoc, ← chrL_a HC.out] at HI2
        go_wp2
        go_roundw
        case rel => exact ⟨i + 1, by omega, by go_num, HI2, HB2⟩
        case measure => simp [intOf]; omega
    · obtain rfl : i = a + b := by omega
      have c0 : decide (((a + b : Nat) : Int) < (a : Int) + (b : Int)) = false := decide_eq_false (by omega)
      have c1 : decide ((a : Int) + (b : Int) < (a : Int) + (b : Int)) = false := decide_eq_false (by omega)
      go_wp2_with fail
      refine (Try.Builder_String_any w.heap.size w.heap.size (chrL a b (a + b)) _ hI.out hB.out.size).mono ?_
      rintro e w' ⟨rfl, hB2⟩
      have HB2 := hB.out.trans hB2
      clear hI hB hB2
      go_wp2
      go_ret2
      exact ⟨rfl, HB2⟩
theorem word_Christoffel.no (a0 a1 : Int) (w : World) (h : ¬ (0 ≤ a0 ∧ 0 ≤ a1 ∧ a0 ≤ 60 ∧ a1 ≤ 60 ∧ 1 ≤ a0 + a1 ∧ a0 + a1 ≤ 60)) :
    Calls Try.prog 15 #[.int .i64 a0, .int .i64 a1] w fun e w' => e = .returned (.tuple #[.string ⟨#[]⟩, .int .i64 3]) ∧ Below w.heap.size w w' := by
  have HA := Aside0.mk h
  clear h
  have key : ∀ v : Bool, v = v := fun _ => rfl
  clear key
  by_cases h1 : a0 < 0
  · have b1 : decide (a0 < 0) = true := decide_eq_true h1
    go_enter Try.func15, Try.ntmps15
    go_wp2
    go_ret2
    exact ⟨rfl, Below.refl _ _⟩
  have b1 : decide (a0 < 0) = false := decide_eq_false h1
  by_cases h2 : a1 < 0
  · have b2 : decide (a1 < 0) = true := decide_eq_true h2
    go_enter Try.func15, Try.ntmps15
    go_wp2
    go_ret2
    exact ⟨rfl, Below.refl _ _⟩
  have b2 : decide (a1 < 0) = false := decide_eq_false h2
  by_cases h3 : 60 < a0
  · have b3 : decide (60 < a0) = true := decide_eq_true h3
    go_enter Try.func15, Try.ntmps15
    go_wp2
    go_ret2
    exact ⟨rfl, Below.refl _ _⟩
  have b3 : decide (60 < a0) = false := decide_eq_false h3
  by_cases h4 : 60 < a1
  · have b4 : decide (60 < a1) = true := decide_eq_true h4
    go_enter Try.func15, Try.ntmps15
    go_wp2
    go_ret2
    exact ⟨rfl, Below.refl _ _⟩
  have b4 : decide (60 < a1) = false := decide_eq_false h4
  by_cases h5 : a0 + a1 < 1
  · have b5 : decide (a0 + a1 < 1) = true := decide_eq_true h5
    go_enter Try.func15, Try.ntmps15
    go_wp2
    go_ret2
    exact ⟨rfl, Below.refl _ _⟩
  have b5 : decide (a0 + a1 < 1) = false := decide_eq_false h5
  by_cases h6 : 60 < a0 + a1
  · have b6 : decide (60 < a0 + a1) = true := decide_eq_true h6
    go_enter Try.func15, Try.ntmps15
    go_wp2
    go_ret2
    exact ⟨rfl, Below.refl _ _⟩
  exact absurd (by omega) HA.out
theorem word_Christoffel.calls (a0 : Int) (a1 : Int) (r1 : ByteArray) (r2 : Int) (w : World) (h : word_Christoffel.f a0 a1 = some (r1, r2)) :
    Calls Try.prog 15 #[.int .i64 a0, .int .i64 a1] w fun e w' => e = .returned (.tuple #[.string r1, .int .i64 r2]) ∧ Below w.heap.size w w' := by
  unfold word_Christoffel.f at h
  split at h
  · rename_i hc
    obtain ⟨rfl, rfl⟩ : (⟨(chrW a0.toNat a1.toNat).toArray⟩ : ByteArray) = r1 ∧ (0 : Int) = r2 := by simpa using h
    have := word_Christoffel.yes a0.toNat a1.toNat w (by omega) (by omega)
    rwa [show ((a0.toNat : Nat) : Int) = a0 by omega, show ((a1.toNat : Nat) : Int) = a1 by omega] at this
  · rename_i hc
    obtain ⟨rfl, rfl⟩ : (⟨#[]⟩ : ByteArray) = r1 ∧ (3 : Int) = r2 := by simpa using h
    exact word_Christoffel.no a0 a1 w hc
end Go.Proofs.Ytpommkpgiogjgaa.X
