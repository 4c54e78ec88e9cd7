/- Words as lists of bytes: sizes, slices, rotations, the order of the dictionary, the least rotation. -/
import Derived.Test.YtpommkpgiogjgaaX4
import Derived.Laws.Strings
set_option linter.unusedVariables false
namespace Go.Proofs.Ytpommkpgiogjgaa.X
open Go.RowKit Go.Proofs.YtpommkpgiogjgaaW.PrintWords Go.Proofs.YtpommkpgiogjgaaW.PrintLast Go.Proofs.YtpommkpgiogjgaaW.PrintMore
theorem wrap_nat {n : Nat} (h : n ≤ 9223372036854775807) : wrap64 (n : Int) = (n : Int) := by unfold wrap64; omega
theorem wrap_suc {n : Nat} (h : n + 1 ≤ 9223372036854775807) : wrap64 ((n : Int) + 1) = ((n + 1 : Nat) : Int) := by unfold wrap64; omega
def mkB (l : List UInt8) : ByteArray := ⟨l.toArray⟩
theorem mkB_toList (l : List UInt8) : (mkB l).toList = l := by rw [ByteArray.toList_eq]; rfl
theorem mkB_size (l : List UInt8) : (mkB l).size = l.length := rfl
theorem mkB_append (l m : List UInt8) : mkB l ++ mkB m = mkB (l ++ m) := by apply ByteArray.ext; simp [mkB]
theorem mkB_extract (l : List UInt8) (i j : Nat) : (mkB l).extract i j = mkB ((l.drop i).take (j - i)) := by
  apply ByteArray.ext; simp [mkB]
theorem mkB_inj {l m : List UInt8} (h : mkB l = mkB m) : l = m := by rw [← mkB_toList l, h, mkB_toList]
theorem eq_mkB (s : ByteArray) : s = mkB s.data.toList := by apply ByteArray.ext; simp [mkB]
/-- the rotation by i -/
def rotL (l : List UInt8) (i : Nat) : List UInt8 := l.drop i ++ l.take i
theorem rotL_zero (l : List UInt8) : rotL l 0 = l := by simp [rotL]
theorem rotL_length (l : List UInt8) (i : Nat) : (rotL l i).length = l.length := by simp [rotL]; omega
theorem tmod_index {i n : Nat} (h : i < n) (hn : n ≤ 100000) : Int.tmod (wrap64 ((Int.tmod (i : Int) (n : Int)) + (n : Int))) (n : Int) = (i : Int) := by
  rw [← Int.ofNat_tmod, Nat.mod_eq_of_lt h, ← Int.natCast_add, wrap_nat (by omega), ← Int.ofNat_tmod, Nat.add_mod_right, Nat.mod_eq_of_lt h]
theorem rotate_f (l : List UInt8) (i : Nat) (h : i < l.length) (hl : l.length ≤ 100000) : schismalaw34_rotate.f (mkB l) (i : Int) = some (mkB (rotL l i)) := by
  unfold schismalaw34_rotate.f
  rw [mkB_size, tmod_index h hl, if_neg (by omega), if_pos (by omega), if_pos (by omega), Int.toNat_natCast, mkB_extract, mkB_extract, mkB_append]
  have e : (l.drop i).take (l.length - i) ++ (l.drop 0).take (i - 0) = rotL l i := by
    unfold rotL
    rw [List.take_of_length_le (by simp)]
    simp
  rw [e, if_pos]
  rw [mkB_size, mkB_size, List.length_take, List.length_take, List.length_drop, List.length_drop]
  omega
theorem bl_irrefl : ∀ x : List UInt8, Op.bytesLess x x = false := by
  intro x
  induction x with
  | nil => rfl
  | cons a x ih => simp [Op.bytesLess, ih]
theorem bl_cons (a b : UInt8) (x y : List UInt8) : Op.bytesLess (a :: x) (b :: y) = (decide (a < b) || (a == b && Op.bytesLess x y)) := rfl
theorem bl_asymm : ∀ x y : List UInt8, Op.bytesLess x y = true → Op.bytesLess y x = false := by
  intro x
  induction x with
  | nil => intro y h; cases y <;> rfl
  | cons a x ih =>
    intro y h
    cases y with
    | nil => exact absurd h (by simp [Op.bytesLess])
    | cons b y =>
      rw [bl_cons] at h ⊢
      simp only [Bool.or_eq_true, decide_eq_true_eq, Bool.and_eq_true, beq_iff_eq, Bool.or_eq_false_iff, decide_eq_false_iff_not, Bool.and_eq_false_iff, beq_eq_false_iff_ne, ne_eq, UInt8.lt_iff_toNat_lt] at h ⊢
      rcases h with h | ⟨rfl, h⟩
      · exact ⟨by omega, .inl (fun e => by subst e; omega)⟩
      · exact ⟨by omega, .inr (ih y h)⟩
/-- from x the word y is at most: transitive -/
theorem ble_trans : ∀ x y z : List UInt8, x.length = y.length → y.length = z.length → Op.bytesLess x y = false → Op.bytesLess y z = false → Op.bytesLess x z = false := by
  intro x
  induction x with
  | nil =>
    intro y z h1 h2 _ _
    cases y with
    | nil => cases z with
      | nil => rfl
      | cons c z => cases h2
    | cons b y => cases h1
  | cons a x ih =>
    intro y z h1 h2 hxy hyz
    cases y with
    | nil => cases h1
    | cons b y =>
      cases z with
      | nil => cases h2
      | cons c z =>
        rw [bl_cons] at hxy hyz ⊢
        simp only [Bool.or_eq_false_iff, decide_eq_false_iff_not, Bool.and_eq_false_iff, beq_eq_false_iff_ne, ne_eq, UInt8.lt_iff_toNat_lt] at hxy hyz ⊢
        obtain ⟨p1, p2⟩ := hxy
        obtain ⟨q1, q2⟩ := hyz
        refine ⟨by omega, ?_⟩
        by_cases e : a = c
        · subst e
          have e' : a = b := UInt8.toNat_inj.1 (by omega)
          subst e'
          rcases p2 with p2 | p2
          · exact absurd rfl p2
          rcases q2 with q2 | q2
          · exact absurd rfl q2
          exact .inr (ih y z (by simpa using h1) (by simpa using h2) p2 q2)
        · exact .inl e
/-- the order, letter by letter -/
theorem bl_false_iff : ∀ x y : List UInt8, x.length = y.length → (Op.bytesLess x y = false ↔ ∀ j, j < x.length → (∀ t, t < j → x.getD t 0 = y.getD t 0) → (y.getD j 0).toNat ≤ (x.getD j 0).toNat) := by
  intro x
  induction x with
  | nil =>
    intro y h
    cases y with
    | nil => simp [Op.bytesLess]
    | cons b y => cases h
  | cons a x ih =>
    intro y h
    cases y with
    | nil => cases h
    | cons b y =>
      have hl : x.length = y.length := by simpa using h
      rw [bl_cons]
      simp only [Bool.or_eq_false_iff, decide_eq_false_iff_not, Bool.and_eq_false_iff, beq_eq_false_iff_ne, ne_eq, UInt8.lt_iff_toNat_lt]
      constructor
      · rintro ⟨h1, h2⟩ j hj hag
        cases j with
        | zero => simp; omega
        | succ j =>
          have e := hag 0 (by omega)
          simp at e
          subst e
          rcases h2 with h2 | h2
          · exact absurd rfl h2
          have := (ih y hl).1 h2 j (by simpa using hj) (fun t ht => by simpa using hag (t + 1) (by omega))
          simpa using this
      · intro H
        have H0 := H 0 (by simp) (fun t ht => by omega)
        simp at H0
        refine ⟨by omega, ?_⟩
        by_cases e : a = b
        · subst e
          refine .inr ((ih y hl).2 fun j hj hag => ?_)
          have := H (j + 1) (by simpa using hj) (fun t ht => by
            cases t with
            | zero => simp
            | succ t => simpa using hag t (by omega))
          simpa using this
        · exact .inl e
/-! ### the least rotation -/
def bestN (l : List UInt8) : Nat → Nat → Nat → Nat
  | 0, b, _ => b
  | d + 1, b, i => bestN l d (if Op.bytesLess (rotL l i) (rotL l b) = true then i else b) (i + 1)
theorem bestN_lt (l : List UInt8) : ∀ d b i, i + d = l.length → b < l.length → bestN l d b i < l.length := by
  intro d
  induction d with
  | zero => intro b i _ h; exact h
  | succ d ih =>
    intro b i hi hb
    rw [bestN]
    apply ih _ _ (by omega)
    split <;> omega
theorem least_l0 (l : List UInt8) (hl : l.length ≤ 100000) : ∀ d k b i, i + d = l.length → b < l.length → d < k →
    schismalaw34_least.l0 k (mkB l) (b : Int) (i : Int) = some (mkB (rotL l (bestN l d b i)), (bestN l d b i : Int)) := by
  intro d
  induction d with
  | zero =>
    intro k b i hi hb hk
    obtain ⟨k, rfl⟩ : ∃ m, k = m + 1 := ⟨k - 1, by omega⟩
    rw [schismalaw34_least.l0, mkB_size, if_neg (by omega), rotate_f l b hb hl]
    rfl
  | succ d ih =>
    intro k b i hi hb hk
    obtain ⟨k, rfl⟩ : ∃ m, k = m + 1 := ⟨k - 1, by omega⟩
    rw [schismalaw34_least.l0, mkB_size, if_pos (by omega), rotate_f l b hb hl, rotate_f l i (by omega) hl, Option.bind_some, Option.bind_some, mkB_toList, mkB_toList, wrap_suc (by omega), bestN]
    split
    · exact ih k i (i + 1) (by omega) (by omega) (by omega)
    · exact ih k b (i + 1) (by omega) hb (by omega)
theorem least_f (l : List UInt8) (h1 : 1 ≤ l.length) (hl : l.length ≤ 100000) (k : Nat) (hk : l.length ≤ k) :
    schismalaw34_least.f k (mkB l) = some (mkB (rotL l (bestN l (l.length - 1) 0 1)), (bestN l (l.length - 1) 0 1 : Int)) :=
  least_l0 l hl (l.length - 1) k 0 1 (by omega) (by omega) (by omega)
theorem best_le (l : List UInt8) : ∀ d b i, Op.bytesLess (rotL l b) (rotL l (bestN l d b i)) = false ∧ ∀ j, i ≤ j → j < i + d → Op.bytesLess (rotL l j) (rotL l (bestN l d b i)) = false := by
  intro d
  induction d with
  | zero => intro b i; exact ⟨bl_irrefl _, fun j h1 h2 => by omega⟩
  | succ d ih =>
    intro b i
    have len : ∀ a c, (rotL l a).length = (rotL l c).length := fun a c => by rw [rotL_length, rotL_length]
    rw [bestN]
    by_cases h : Op.bytesLess (rotL l i) (rotL l b) = true
    · rw [if_pos h]
      obtain ⟨p, q⟩ := ih i (i + 1)
      refine ⟨ble_trans _ _ _ (len _ _) (len _ _) (bl_asymm _ _ h) p, fun j h1 h2 => ?_⟩
      by_cases e : j = i
      · subst e; exact p
      · exact q j (by omega) (by omega)
    · rw [if_neg h]
      obtain ⟨p, q⟩ := ih b (i + 1)
      refine ⟨p, fun j h1 h2 => ?_⟩
      by_cases e : j = i
      · subst e; exact ble_trans _ _ _ (len _ _) (len _ _) (Bool.eq_false_iff.2 h) p
      · exact q j (by omega) (by omega)
theorem best_zero (l : List UInt8) : ∀ d i, (∀ j, i ≤ j → j < i + d → Op.bytesLess (rotL l j) l = false) → bestN l d 0 i = 0 := by
  intro d
  induction d with
  | zero => intro i _; rfl
  | succ d ih =>
    intro i h
    rw [bestN, rotL_zero, if_neg (by rw [h i (Nat.le_refl _) (by omega)]; simp)]
    exact ih (i + 1) (fun j h1 h2 => h j (by omega) (by omega))
theorem best_neck (l : List UInt8) (h1 : 1 ≤ l.length) : rotL l (bestN l (l.length - 1) 0 1) = l ↔ ∀ i, i < l.length → Op.bytesLess (rotL l i) l = false := by
  constructor
  · intro h i hi
    obtain ⟨p, q⟩ := best_le l (l.length - 1) 0 1
    rw [h] at p q
    cases i with
    | zero => exact p
    | succ i => exact q (i + 1) (by omega) (by omega)
  · intro h
    rw [best_zero l (l.length - 1) 1 (fun j a b => h j (by omega)), rotL_zero]
theorem rotL_getD (l : List UInt8) (i j : Nat) (hi : i < l.length) (hj : j < l.length) : (rotL l i).getD j 0 = l.getD ((i + j) % l.length) 0 := by
  unfold rotL
  rw [List.getD_eq_getElem?_getD, List.getD_eq_getElem?_getD, List.getElem?_append, List.length_drop]
  split
  · rw [List.getElem?_drop, Nat.mod_eq_of_lt (by omega)]
  · rw [List.getElem?_take_of_lt (by omega), show (i + j) % l.length = j - (l.length - i) by
      rw [Nat.mod_eq_sub_mod (by omega), Nat.mod_eq_of_lt (by omega)]; omega]
end Go.Proofs.Ytpommkpgiogjgaa.X
