/- Rotations of rotations; two words have the same least rotation exactly if one is a rotation of the other. -/
import Derived.Test.YtpommkpgiogjgaaPWords
set_option linter.unusedVariables false
namespace Go.Proofs.Ytpommkpgiogjgaa.X
open Go.RowKit Go.Proofs.YtpommkpgiogjgaaW.PrintWords Go.Proofs.YtpommkpgiogjgaaW.PrintLast Go.Proofs.YtpommkpgiogjgaaW.PrintMore
theorem ext_getD {l m : List UInt8} (hl : l.length = m.length) (h : ∀ j, j < l.length → l.getD j 0 = m.getD j 0) : l = m := by
  apply List.ext_getElem?
  intro j
  by_cases hj : j < l.length
  · have a := h j hj
    rw [List.getD_eq_getElem?_getD, List.getD_eq_getElem?_getD, List.getElem?_eq_getElem hj, List.getElem?_eq_getElem (by omega)] at a
    rw [List.getElem?_eq_getElem hj, List.getElem?_eq_getElem (by omega)]
    exact congrArg some a
  · rw [List.getElem?_eq_none (by omega), List.getElem?_eq_none (by omega)]
theorem rotL_rotL (l : List UInt8) (i j : Nat) (hi : i < l.length) (hj : j < l.length) : rotL (rotL l i) j = rotL l ((i + j) % l.length) := by
  apply ext_getD (by rw [rotL_length, rotL_length, rotL_length])
  intro t ht
  rw [rotL_length, rotL_length] at ht
  have hm : (j + t) % l.length < l.length := Nat.mod_lt _ (by omega)
  rw [rotL_getD (rotL l i) j t (by rw [rotL_length]; exact hj) (by rw [rotL_length]; exact ht), rotL_length, rotL_getD l i _ hi hm, rotL_getD l _ t (Nat.mod_lt _ (by omega)) ht, Nat.add_mod_mod, Nat.mod_add_mod, Nat.add_assoc]
theorem rotL_back (l : List UInt8) (i : Nat) (hi : i < l.length) : ∃ j, j < l.length ∧ rotL (rotL l i) j = l := by
  by_cases h : i = 0
  · subst h; exact ⟨0, hi, by rw [rotL_zero, rotL_zero]⟩
  · refine ⟨l.length - i, by omega, ?_⟩
    rw [rotL_rotL l i _ hi (by omega), show i + (l.length - i) = l.length by omega, Nat.mod_self, rotL_zero]
/-- the least rotation -/
def leastL (l : List UInt8) : List UInt8 := rotL l (bestN l (l.length - 1) 0 1)
theorem leastL_length (l : List UInt8) : (leastL l).length = l.length := rotL_length _ _
theorem leastL_le (l : List UInt8) (h1 : 1 ≤ l.length) (i : Nat) (hi : i < l.length) : Op.bytesLess (rotL l i) (leastL l) = false := by
  obtain ⟨p, q⟩ := best_le l (l.length - 1) 0 1
  by_cases h : i = 0
  · subst h; exact p
  · exact q i (by omega) (by omega)
theorem leastL_rot (l : List UInt8) (h1 : 1 ≤ l.length) : ∃ i, i < l.length ∧ leastL l = rotL l i := ⟨_, bestN_lt l _ _ _ (by omega) (by omega), rfl⟩
theorem bl_antisymm : ∀ x y : List UInt8, x.length = y.length → Op.bytesLess x y = false → Op.bytesLess y x = false → x = y := by
  intro x
  induction x with
  | nil => intro y h _ _; cases y with
    | nil => rfl
    | cons b y => cases h
  | cons a x ih =>
    intro y h h1 h2
    cases y with
    | nil => cases h
    | cons b y =>
      rw [bl_cons] at h1 h2
      simp only [Bool.or_eq_false_iff, decide_eq_false_iff_not, Bool.and_eq_false_iff, beq_eq_false_iff_ne, ne_eq, UInt8.lt_iff_toNat_lt] at h1 h2
      have e : a = b := UInt8.toNat_inj.1 (by omega)
      subst e
      rcases h1.2 with c | c
      · exact absurd rfl c
      rcases h2.2 with d | d
      · exact absurd rfl d
      rw [ih y (by simpa using h) c d]
/-- the same least rotation: of a rotation -/
theorem leastL_of_rot (l : List UInt8) (i : Nat) (hi : i < l.length) : leastL (rotL l i) = leastL l := by
  have hlen : (rotL l i).length = l.length := rotL_length l i
  obtain ⟨p, hp, ep⟩ := leastL_rot (rotL l i) (by omega)
  obtain ⟨q, hq, eq⟩ := leastL_rot l (by omega)
  obtain ⟨j, hj, ej⟩ := rotL_back l i hi
  rw [hlen] at hp
  apply bl_antisymm
  · rw [leastL_length, leastL_length, hlen]
  · rw [ep, rotL_rotL l i p hi hp]
    exact leastL_le l (by omega) _ (Nat.mod_lt _ (by omega))
  · have e : leastL l = rotL (rotL l i) ((j + q) % l.length) := by
      have := rotL_rotL (rotL l i) j q (by omega) (by omega)
      rw [ej, hlen] at this
      rw [eq, this]
    rw [e]
    exact leastL_le (rotL l i) (by omega) _ (by rw [hlen]; exact Nat.mod_lt _ (by omega))
theorem leastL_iff (l m : List UInt8) (hl : l.length = m.length) (h1 : 1 ≤ l.length) : leastL l = leastL m ↔ ∃ i, i < l.length ∧ rotL l i = m := by
  constructor
  · intro h
    obtain ⟨p, hp, ep⟩ := leastL_rot l h1
    obtain ⟨q, hq, eq⟩ := leastL_rot m (by omega)
    obtain ⟨j, hj, ej⟩ := rotL_back m q hq
    refine ⟨(p + j) % l.length, Nat.mod_lt _ (by omega), ?_⟩
    rw [← rotL_rotL l p j hp (by omega), ← ep, h, eq, ej]
  · rintro ⟨i, hi, rfl⟩
    exact (leastL_of_rot l i hi).symm
end Go.Proofs.Ytpommkpgiogjgaa.X
