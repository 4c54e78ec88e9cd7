/- For any text of at most 64 bytes, Check returns the first error and so do the other functions; Counts, Rotate and Reverse return what the definitions say: the plain law. -/
import Derived.Test.YtpommkpgiogjgaaPKnown
import Derived.Test.YtpommkpgiogjgaaPCt1
import Derived.Test.YtpommkpgiogjgaaX12
set_option linter.unusedVariables false
namespace Go.Proofs.Ytpommkpgiogjgaa.X
open Go.RowKit Go.Proofs.YtpommkpgiogjgaaW.PrintWords Go.Proofs.YtpommkpgiogjgaaW.PrintLast Go.Proofs.YtpommkpgiogjgaaW.PrintMore
theorem bt_mkB (l : List UInt8) (i : Nat) (h : i < l.length) : bt (mkB l) (i : Int) = (l[i].toNat : Int) := by
  have h' : ((i : Int)).toNat < (mkB l).size := by rw [Int.toNat_natCast, mkB_size]; exact h
  unfold bt
  rw [dif_pos h']
  rfl
/-- a byte that is no letter -/
def badL (b : UInt8) : Bool := decide (b.toNat < 97) || decide (122 < b.toNat)
/-- the error of a row of bytes -/
def errL (l : List UInt8) : Int := if l.any badL = true then 15 else 0
def wantL (l : List UInt8) : Int := if l = [] then 13 else if 60 < l.length then 16 else errL l
theorem errL_cons (b : UInt8) (l : List UInt8) : errL (b :: l) = if badL b = true then 15 else errL l := by
  unfold errL
  rw [List.any_cons]
  by_cases h : badL b = true
  · rw [if_pos h, h, Bool.true_or, if_pos rfl]
  · rw [if_neg h, Bool.eq_false_iff.2 h, Bool.false_or]
theorem bad_ints (b : UInt8) (r s : Option Int) : (if (b.toNat : Int) < 97 then r else (if (b.toNat : Int) > 122 then r else s)) = if badL b = true then r else s := by
  by_cases h1 : b.toNat < 97
  · rw [if_pos (by omega), if_pos (by simp [badL, h1])]
  · by_cases h2 : 122 < b.toNat
    · rw [if_neg (by omega), if_pos (by omega), if_pos (by simp [badL, h2])]
    · rw [if_neg (by omega), if_neg (by omega), if_neg (by simp [badL]; omega)]
theorem scheck_l0 (l : List UInt8) (hl : l.length ≤ 100000) : ∀ d k i, i + d = l.length → d < k → schismalaw34_check.l0 k (mkB l) (i : Int) = some (errL (l.drop i)) := by
  intro d
  induction d with
  | zero =>
    intro k i hi hk
    obtain ⟨k, rfl⟩ : ∃ m, k = m + 1 := ⟨k - 1, by omega⟩
    rw [schismalaw34_check.l0, mkB_size, if_neg (by omega), List.drop_of_length_le (by omega)]
    rfl
  | succ d ih =>
    intro k i hi hk
    obtain ⟨k, rfl⟩ : ∃ m, k = m + 1 := ⟨k - 1, by omega⟩
    have hil : i < l.length := by omega
    rw [schismalaw34_check.l0, mkB_size, if_pos (by omega), if_pos (by omega), bt_mkB l i hil, bad_ints, wrap_suc (by omega), ih k (i + 1) (by omega) (by omega), List.drop_eq_getElem_cons hil, errL_cons]
    split <;> rfl
theorem wcheck_l0 (l : List UInt8) (hl : l.length ≤ 100000) : ∀ d k i, i + d = l.length → d < k → word_Check.l0 k (mkB l) (l.length : Int) (i : Int) = some (errL (l.drop i)) := by
  intro d
  induction d with
  | zero =>
    intro k i hi hk
    obtain ⟨k, rfl⟩ : ∃ m, k = m + 1 := ⟨k - 1, by omega⟩
    rw [word_Check.l0, if_neg (by omega), List.drop_of_length_le (by omega)]
    rfl
  | succ d ih =>
    intro k i hi hk
    obtain ⟨k, rfl⟩ : ∃ m, k = m + 1 := ⟨k - 1, by omega⟩
    have hil : i < l.length := by omega
    rw [word_Check.l0, if_pos (by omega), if_pos (by omega), mkB_size, if_pos (by omega), bt_mkB l i hil, bad_ints, wrap_suc (by omega), ih k (i + 1) (by omega) (by omega), List.drop_eq_getElem_cons hil, errL_cons]
    split <;> rfl
theorem scheck_any (l : List UInt8) (k : Nat) (hk : 61 ≤ k) : schismalaw34_check.f k (mkB l) = some (wantL l) := by
  unfold schismalaw34_check.f wantL
  rw [mkB_toList, mkB_size]
  by_cases h : l = []
  · rw [if_pos h, if_pos h]
  · rw [if_neg h, if_neg h]
    by_cases h6 : 60 < l.length
    · rw [if_pos (by omega), if_pos h6]
    · rw [if_neg (by omega), if_neg h6]
      exact scheck_l0 l (by omega) l.length k 0 (by omega) (by omega)
theorem wcheck_any (l : List UInt8) (k : Nat) (hk : 61 ≤ k) : word_Check.f k (mkB l) = some (wantL l) := by
  unfold word_Check.f wantL
  rw [mkB_toList, mkB_size]
  by_cases h : l = []
  · rw [if_pos h, if_pos h]
  · rw [if_neg h, if_neg h]
    by_cases h6 : 60 < l.length
    · rw [if_pos (by omega), if_pos h6]
    · rw [if_neg (by omega), if_neg h6]
      exact wcheck_l0 l (by omega) l.length k 0 (by omega) (by omega)
/-- without error it is a word -/
theorem want_zero (l : List UInt8) (h : wantL l = 0) : ∃ w : List Nat, l = toU w ∧ (∀ c ∈ w, c < 26) ∧ 1 ≤ w.length ∧ w.length ≤ 60 := by
  unfold wantL at h
  by_cases h0 : l = []
  · rw [if_pos h0] at h; exact absurd h (by decide)
  rw [if_neg h0] at h
  by_cases h6 : 60 < l.length
  · rw [if_pos h6] at h; exact absurd h (by decide)
  rw [if_neg h6] at h
  unfold errL at h
  by_cases hb : l.any badL = true
  · rw [if_pos hb] at h; exact absurd h (by decide)
  have hb' := List.any_eq_false.1 (Bool.eq_false_iff.2 hb)
  have hrange : ∀ b ∈ l, 97 ≤ b.toNat ∧ b.toNat ≤ 122 := by
    intro b hbm
    have := hb' b hbm
    simp [badL] at this
    omega
  have hpos : 1 ≤ l.length := by
    cases l with
    | nil => exact absurd rfl h0
    | cons a l => simp
  refine ⟨l.map fun b => b.toNat - 97, ?_, ?_, by simpa using hpos, by simpa using h6⟩
  · unfold toU
    rw [List.map_map]
    conv => lhs; rw [← List.map_id l]
    apply List.map_congr_left
    intro b hbm
    have := hrange b hbm
    show b = UInt8.ofNat (97 + (b.toNat - 97))
    rw [show 97 + (b.toNat - 97) = b.toNat by omega]
    simp
  · intro c hc
    rw [List.mem_map] at hc
    obtain ⟨b, hbm, rfl⟩ := hc
    have := hrange b hbm
    omega
/-! ### with an error -/
theorem bad_j1 (l : List UInt8) (a : Int) (k : Nat) (hk : 62 ≤ k) (e : Int) (hw : wantL l = e) (he : e ≠ 0) :
    schismalaw34_WordChecks.j1 k (mkB l) a e [] (⟨#[]⟩ : ByteArray) (⟨#[]⟩ : ByteArray) false = some true := by
  obtain ⟨k, rfl⟩ : ∃ m, k = m + 1 := ⟨k - 1, by omega⟩
  have hc : word_Check.f k (mkB l) = some e := by rw [← hw]; exact wcheck_any l k (by omega)
  have h1 : word_Least.f k (mkB l) = some ((⟨#[]⟩ : ByteArray), 0, e) := by
    unfold word_Least.f; rw [hc, Option.bind_some, if_neg he]
  have h2 : word_Same.f k (mkB l) (mkB l) = some (0, false, e) := by
    unfold word_Same.f; rw [hc, Option.bind_some, if_neg he]
  have h3 : word_Primitive.f k (mkB l) = some ((⟨#[]⟩ : ByteArray), 0, e) := by
    unfold word_Primitive.f; rw [hc, Option.bind_some, if_neg he]
  have h4 : word_Balanced.f k (mkB l) = some (false, 0, 0, 0, (⟨#[]⟩ : ByteArray), e) := by
    unfold word_Balanced.f; rw [hc, Option.bind_some, if_neg he]
  have h5 : word_Conjugate.f k (mkB l) = some (false, e) := by
    unfold word_Conjugate.f; rw [hc, Option.bind_some, if_neg he]
  rw [schismalaw34_WordChecks.j1, if_neg (by simp), if_neg he, h1, Option.bind_some, h2, Option.bind_some, h3, Option.bind_some, h4, Option.bind_some, h5, Option.bind_some]
  simp
/-! ### without an error -/
theorem rows_l0 (A : List Int) (hA : A.length ≤ 100000) : ∀ d k i, i + d = A.length → d < k → schismaref06_EqualRows.l0 k A A (i : Int) = some true := by
  intro d
  induction d with
  | zero =>
    intro k i hi hk
    obtain ⟨k, rfl⟩ : ∃ m, k = m + 1 := ⟨k - 1, by omega⟩
    rw [schismaref06_EqualRows.l0, if_neg (by omega)]
  | succ d ih =>
    intro k i hi hk
    obtain ⟨k, rfl⟩ : ∃ m, k = m + 1 := ⟨k - 1, by omega⟩
    rw [schismaref06_EqualRows.l0, if_pos (by omega), if_pos (by omega), if_pos (by omega), if_pos rfl, wrap_suc (by omega)]
    exact ih k (i + 1) (by omega) (by omega)
theorem rows_f (A : List Int) (hA : A.length ≤ 100000) (k : Nat) (hk : A.length < k) : schismaref06_EqualRows.f k A A = some true := by
  unfold schismaref06_EqualRows.f
  rw [if_pos rfl]
  exact rows_l0 A hA A.length k 0 (by omega) hk
theorem spot_tmod (a : Int) (n : Nat) (h : 1 ≤ n) : spot (Int.tmod a (n : Int)) n = spot a n := by
  have e : ((spot (Int.tmod a (n : Int)) n : Nat) : Int) = ((spot a n : Nat) : Int) := by
    rw [spot_val _ n h, spot_val a n h]
    have d := Int.mul_tdiv_add_tmod a (n : Int)
    conv => rhs; rw [← d]
    rw [Int.add_comm, Int.add_mul_emod_self_left]
  omega
theorem good_l0 (w : List Nat) (hw : ∀ c ∈ w, c < 26) (h1 : 1 ≤ w.length) (hl : w.length ≤ 60) (a : Int) : ∀ d k i, i + d = w.length → d + 7000 < k →
    schismalaw34_WordChecks.l0 k (mkB (toU w)) a (nums (ctsW w)) (mkB (rotL (toU w) (spot a w.length))) (mkB (toU w).reverse) (mkB ((toU w).take i).reverse) (i : Int) = some true := by
  have hU : (toU w).length = w.length := toU_length w
  intro d
  induction d with
  | zero =>
    intro k i hi hk
    obtain ⟨k, rfl⟩ : ∃ m, k = m + 1 := ⟨k - 1, by omega⟩
    obtain ⟨p, q, r⟩ := ctsW_facts _ w rfl
    have hr := r 26 hw
    have hrot := rotate_any (toU w) (Int.tmod a (w.length : Int)) (by omega) (by omega)
    rw [hU, spot_tmod a w.length h1] at hrot
    rw [schismalaw34_WordChecks.l0, mkB_size, hU, if_neg (by omega), counts_f w (fun c hc => by have := hw c hc; omega) (by omega) k (by omega), Option.bind_some,
      rows_f _ (by rw [nums_length]; omega) k (by rw [nums_length]; omega), Option.bind_some, if_pos rfl, if_neg (by omega), hrot, Option.bind_some, if_pos rfl, List.take_of_length_le (by omega)]
    simp
  | succ d ih =>
    intro k i hi hk
    obtain ⟨k, rfl⟩ : ∃ m, k = m + 1 := ⟨k - 1, by omega⟩
    have hil : i < (toU w).length := by omega
    have e : ((toU w).drop i).take (i + 1 - i) ++ ((toU w).take i).reverse = ((toU w).take (i + 1)).reverse := by
      rw [show i + 1 - i = 1 by omega, List.drop_eq_getElem_cons hil, List.take_succ_eq_append_getElem hil, List.reverse_append]
      rfl
    rw [schismalaw34_WordChecks.l0, mkB_size, hU, if_pos (by omega), if_pos (by omega), wrap_suc (by omega), if_pos (by omega), if_pos (by omega), Int.toNat_natCast, Int.toNat_natCast, mkB_extract, mkB_append, e,
      if_pos (by rw [mkB_size, mkB_size, List.length_take, List.length_drop, List.length_reverse, List.length_take]; omega)]
    exact ih k (i + 1) (by omega) (by omega)
theorem pure_WordChecks : schismalaw34_WordChecks.Pure := by
  intro s a _ _
  obtain ⟨l, rfl⟩ : ∃ l, s = mkB l := ⟨_, eq_mkB s⟩
  refine ⟨10000, ?_⟩
  unfold schismalaw34_WordChecks.f
  rw [known_all 10000 (by omega), Option.bind_some, if_pos rfl, mkB_size]
  by_cases h64 : (l.length : Int) > 64
  · rw [decide_eq_true h64, show 10000 = 9999 + 1 from rfl, schismalaw34_WordChecks.j0, if_pos rfl, known_all 9999 (by omega)]
    rfl
  · rw [decide_eq_false h64, show 10000 = 9999 + 1 from rfl, schismalaw34_WordChecks.j0, if_neg (by simp), scheck_any l 9999 (by omega), Option.bind_some]
    by_cases h0 : wantL l = 0
    · obtain ⟨w, rfl, hw, h1, hl⟩ := want_zero l h0
      have hU : (toU w).length = w.length := toU_length w
      have hc := check_f w hw h1 hl 9999 (by omega)
      have e2 : word_Rotate.f 9999 (mkB (toU w)) a = some (mkB (rotL (toU w) (spot a w.length)), 0) := by
        unfold word_Rotate.f
        rw [hc, Option.bind_some, if_pos rfl, wrotate_any (toU w) a (by omega) (by omega), Option.bind_some, hU]
      have e3 : word_Reverse.f 9999 (mkB (toU w)) = some (mkB (toU w).reverse, 0) := by
        unfold word_Reverse.f
        rw [hc, Option.bind_some, if_pos rfl]
        rfl
      have hg := good_l0 w hw h1 hl a w.length 9997 0 (by omega) (by omega)
      rw [wcounts_f w hw h1 hl 9999 (by omega), Option.bind_some, e2, Option.bind_some, e3, Option.bind_some, hc, Option.bind_some, h0]
      simp only
      rw [if_pos trivial, if_pos trivial, if_pos trivial, show 9999 = 9998 + 1 from rfl, schismalaw34_WordChecks.j1, if_neg (by simp), if_pos rfl]
      exact good_l0 w hw h1 hl a w.length 9998 0 (by omega) (by omega)
    · have hc := wcheck_any l 9999 (by omega)
      have e1 : word_Counts.f 9999 (mkB l) = some ([], wantL l) := by
        unfold word_Counts.f; rw [hc, Option.bind_some, if_neg h0]
      have e2 : word_Rotate.f 9999 (mkB l) a = some ((⟨#[]⟩ : ByteArray), wantL l) := by
        unfold word_Rotate.f; rw [hc, Option.bind_some, if_neg h0]
      have e3 : word_Reverse.f 9999 (mkB l) = some ((⟨#[]⟩ : ByteArray), wantL l) := by
        unfold word_Reverse.f; rw [hc, Option.bind_some, if_neg h0]
      rw [e1, Option.bind_some, e2, Option.bind_some, e3, Option.bind_some, hc, Option.bind_some]
      simp only
      rw [if_pos trivial, if_pos trivial, if_pos trivial, bne_self_eq_false]
      exact bad_j1 l a 9999 (by omega) _ rfl h0
end Go.Proofs.Ytpommkpgiogjgaa.X
