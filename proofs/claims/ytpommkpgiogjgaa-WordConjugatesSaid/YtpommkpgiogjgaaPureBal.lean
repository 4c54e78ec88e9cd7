/- For any Letters, Balanced tells whether the word of it is balanced, with the first witness: the plain law. -/
import Derived.Test.YtpommkpgiogjgaaPKnown
import Derived.Test.YtpommkpgiogjgaaPBal
import Derived.Test.YtpommkpgiogjgaaX6
set_option linter.unusedVariables false
namespace Go.Proofs.Ytpommkpgiogjgaa.X
open Go.RowKit Go.Proofs.YtpommkpgiogjgaaW.PrintWords Go.Proofs.YtpommkpgiogjgaaW.PrintLast Go.Proofs.YtpommkpgiogjgaaW.PrintMore
theorem Few.lt26 {w : List Nat} (h : Few w) : ∀ c ∈ w, c < 26 := fun c hc => by have := h.letters c hc; omega
theorem Few.le60 {w : List Nat} (h : Few w) : w.length ≤ 60 := by have := h.len; omega
theorem wordBalanced_f {w : List Nat} (h : Few w) (k : Nat) (hk : 61 ≤ k) : word_Balanced.f k (mkB (toU w)) = some (balF (mkB (toU w))) := by
  unfold word_Balanced.f
  rw [check_f w h.lt26 h.pos h.le60 k hk, Option.bind_some, if_pos rfl]
theorem pure_WordBalances (L : List Int) (a : Int) (hL : ∀ x ∈ L, (Lit.int .u8 x).wf = true) (ha : (Lit.int .u8 a).wf = true) : ∃ k, schismalaw34_WordBalances.f k L a = some true := by
  obtain ⟨R, m, rfl, rfl, hR, hm⟩ := open_letters L a hL ha
  have hf := make_few R m
  have hmk := make_f R m hR hm
  generalize makeW R m = w at hf hmk
  obtain ⟨K, hb⟩ := balanced_f hf.lt26 hf.pos hf.le60
  have hb' : schismalaw34_balanced.f (K + 100) (mkB (toU w)) = some (refB (mkB (toU w))) := hb (K + 100) (by omega)
  refine ⟨K + 100, ?_⟩
  unfold schismalaw34_WordBalances.f
  rw [known_all _ (by omega), Option.bind_some, if_pos rfl, hmk _ (by omega), Option.bind_some, wordBalanced_f hf _ (by omega), Option.bind_some, hb', Option.bind_some]
  unfold balF refB
  cases wit (mkB (toU w)) with
  | none => simp
  | some q =>
    obtain ⟨n, i, j, c⟩ := q
    simp [resB]
/-- the law's walk, over any Letters -/
theorem walk_WordBalances (a0 : Option Addr) (len0 cap0 : Nat) (z0 : List Int) (m : Int) (w : World) (w0 : (a0 = none ∧ len0 = 0 ∧ cap0 = 0 ∧ z0 = []) ∨ ∃ x, a0 = some x ∧ len0 ≤ cap0 ∧ cap0 ≤ maxLen ∧ z0.length = cap0 ∧ (∀ i, i < z0.length → w.cell? (x.add i) = some (.int .u8 (z0.getD i 0))) ∧ ∀ n ∈ z0, (Lit.int .u8 n).wf = true) (hm : (Lit.int .u8 m).wf = true) :
    Calls Try.prog 3 #[.agg #[.slice a0 len0 cap0, .int .u8 m]] w fun e w' => e = .returned (.bool true) ∧ Below w.heap.size w w' := by
  obtain ⟨l0, rfl, hr0, hm0, hw0, hc0⟩ := ReadsInt.ofRowC w0
  obtain ⟨k, h⟩ := pure_WordBalances l0 m hw0 hm
  refine (schismalaw34_WordBalances.calls k _ _ l0 m true w (Kd.C_of_reads (d := (0 : Int)) (h1 := fun _ => rfl) hr0) hc0 h).mono ?_
  rintro e w' ⟨rfl, hd⟩
  exact ⟨rfl, hd⟩
end Go.Proofs.Ytpommkpgiogjgaa.X
