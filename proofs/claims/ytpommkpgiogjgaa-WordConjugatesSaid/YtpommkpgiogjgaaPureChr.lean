/- For any two numbers, Christoffel returns the Christoffel word, or ErrRange: for every pair of numbers of type int. -/
import Derived.Test.YtpommkpgiogjgaaPKnown
import Derived.Test.YtpommkpgiogjgaaX6
import Derived.Test.YtpommkpgiogjgaaX3
import Derived.Test.YtpommkpgiogjgaaEChr
set_option linter.unusedVariables false
namespace Go.Proofs.Ytpommkpgiogjgaa.X
open Go.RowKit Go.Proofs.YtpommkpgiogjgaaW.PrintWords Go.Proofs.YtpommkpgiogjgaaW.PrintLast Go.Proofs.YtpommkpgiogjgaaW.PrintMore
theorem bytes_snoc (l : List UInt8) (c : UInt8) : (⟨l.toArray⟩ : ByteArray) ++ (⟨#[c]⟩ : ByteArray) = ⟨(l ++ [c]).toArray⟩ := by
  apply ByteArray.ext
  simp
theorem bytes_size (l : List UInt8) : (⟨l.toArray⟩ : ByteArray).size = l.length := rfl
theorem wrapN {n : Nat} (h : n ≤ 9223372036854775807) : wrap64 (n : Int) = (n : Int) := by unfold wrap64; omega
theorem wrapI {n : Int} (h : -9223372036854775808 ≤ n) (h' : n ≤ 9223372036854775807) : wrap64 n = n := by unfold wrap64; omega
theorem wrap_add1 {n : Nat} (h : n + 1 ≤ 9223372036854775807) : wrap64 ((n : Int) + 1) = ((n + 1 : Nat) : Int) := by unfold wrap64; omega
theorem wrap_mul {m n : Nat} (h : m * n ≤ 9223372036854775807) : wrap64 ((m : Int) * (n : Int)) = ((m * n : Nat) : Int) := by
  rw [← Int.natCast_mul]; exact wrapN h
theorem wrap_div {m n : Nat} (h : m ≤ 9223372036854775807) : wrap64 (Int.tdiv (m : Int) (n : Int)) = ((m / n : Nat) : Int) := by
  rw [← Int.ofNat_tdiv]; exact wrapN (Nat.le_trans (Nat.div_le_self _ _) h)
theorem christoffel_l0 (a b : Nat) (h1 : 1 ≤ a + b) (h2 : a + b ≤ 60) : ∀ (d k i : Nat), i + d = a + b → d < k → schismalaw34_christoffel.l0 k (b : Int) ((a + b : Nat) : Int) ⟨(chrL a b i).toArray⟩ (i : Int) = some ⟨(chrL a b (a + b)).toArray⟩ := by
  intro d
  induction d with
  | zero =>
    intro k i hi hk
    obtain ⟨k, rfl⟩ : ∃ m, k = m + 1 := ⟨k - 1, by omega⟩
    rw [schismalaw34_christoffel.l0, if_neg (by omega), show i = a + b by omega]
  | succ d ih =>
    intro k i hi hk
    obtain ⟨k, rfl⟩ : ∃ m, k = m + 1 := ⟨k - 1, by omega⟩
    have m1 : i * b ≤ 60 * 60 := Nat.mul_le_mul (by omega) (by omega)
    have m2 : (i + 1) * b ≤ 60 * 60 := Nat.mul_le_mul (by omega) (by omega)
    have hs : (⟨(chrL a b i).toArray⟩ : ByteArray).size + 1 ≤ 9223372036854775807 := by rw [bytes_size, chrL_length]; omega
    rw [schismalaw34_christoffel.l0, wrap_add1 (by omega), wrap_mul (by omega), wrap_mul (by omega), wrap_div (by omega), wrap_div (by omega), if_pos (by omega), if_neg (by omega)]
    by_cases hc : i * b / (a + b) < (i + 1) * b / (a + b)
    · rw [if_pos (Int.ofNat_lt.2 hc), if_pos hs, bytes_snoc, ← chrL_b hc]
      exact ih k (i + 1) (by omega) (by omega)
    · rw [if_neg (fun h => hc (Int.ofNat_lt.1 h)), if_pos hs, bytes_snoc, ← chrL_a hc]
      exact ih k (i + 1) (by omega) (by omega)
theorem christoffel_f (a b : Nat) (h1 : 1 ≤ a + b) (h2 : a + b ≤ 60) (k : Nat) (hk : 61 ≤ k) : schismalaw34_christoffel.f k (a : Int) (b : Int) = some ⟨(chrW a b).toArray⟩ := by
  unfold schismalaw34_christoffel.f
  rw [← Int.natCast_add, wrapN (by omega)]
  exact christoffel_l0 a b h1 h2 (a + b) k 0 (by omega) (by omega)
theorem pure_WordChristoffel : schismalaw34_WordChristoffel.Pure := by
  intro a0 a1 h0 h1
  refine ⟨100, ?_⟩
  have b0 : -9223372036854775808 ≤ a0 ∧ a0 ≤ 9223372036854775807 := by simpa [Lit.wf, IntKind.min, IntKind.max, IntKind.signed, IntKind.bits] using h0
  have b1 : -9223372036854775808 ≤ a1 ∧ a1 ≤ 9223372036854775807 := by simpa [Lit.wf, IntKind.min, IntKind.max, IntKind.signed, IntKind.bits] using h1
  clear h0 h1
  have e0 : (if (⟨#[]⟩ : ByteArray).toList = ([] : List UInt8) then some ((3 : Int) == 3) else some false) = some true := by
    rw [if_pos (by kernel_rfl)]; rfl
  unfold schismalaw34_WordChristoffel.f
  rw [known_all 100 (by omega), Option.bind_some, if_pos rfl]
  unfold word_Christoffel.f
  by_cases hc : 0 ≤ a0 ∧ 0 ≤ a1 ∧ a0 ≤ 60 ∧ a1 ≤ 60 ∧ 1 ≤ a0 + a1 ∧ a0 + a1 ≤ 60
  · rw [if_pos hc]
    obtain ⟨c0, c1, c2, c3, c4, c5⟩ := hc
    have w1 : wrap64 (a0 + a1) = a0 + a1 := wrapI (by omega) (by omega)
    rw [Option.bind_some]
    have := christoffel_f a0.toNat a1.toNat (by omega) (by omega) 100 (by omega)
    rw [show ((a0.toNat : Nat) : Int) = a0 by omega, show ((a1.toNat : Nat) : Int) = a1 by omega] at this
    simp only
    rw [if_neg (by omega), if_neg (by omega), if_neg (by omega), if_neg (by omega), w1, if_neg (by omega), if_neg (by omega), if_pos trivial, this]
    simp
  · rw [if_neg hc, Option.bind_some]
    simp only
    by_cases c0 : a0 < 0
    · rw [if_pos c0]; exact e0
    rw [if_neg c0]
    by_cases c1 : a1 < 0
    · rw [if_pos c1]; exact e0
    rw [if_neg c1]
    by_cases c2 : a0 > 60
    · rw [if_pos c2]; exact e0
    rw [if_neg c2]
    by_cases c3 : a1 > 60
    · rw [if_pos c3]; exact e0
    rw [if_neg c3]
    have w1 : wrap64 (a0 + a1) = a0 + a1 := wrapI (by omega) (by omega)
    rw [w1]
    by_cases c4 : a0 + a1 < 1
    · rw [if_pos c4]; exact e0
    rw [if_neg c4]
    by_cases c5 : a0 + a1 > 60
    · rw [if_pos c5]; exact e0
    exact absurd (by omega) hc
end Go.Proofs.Ytpommkpgiogjgaa.X
