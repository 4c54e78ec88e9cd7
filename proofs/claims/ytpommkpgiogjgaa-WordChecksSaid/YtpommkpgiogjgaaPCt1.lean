/- Counts of a word, and rotation by any number: plain laws. -/
import Derived.Test.YtpommkpgiogjgaaPMake
import Derived.Test.YtpommkpgiogjgaaPRot2
import Derived.Test.YtpommkpgiogjgaaX4
set_option linter.unusedVariables false
namespace Go.Proofs.Ytpommkpgiogjgaa.X
open Go.RowKit Go.Proofs.YtpommkpgiogjgaaW.PrintWords Go.Proofs.YtpommkpgiogjgaaW.PrintLast Go.Proofs.YtpommkpgiogjgaaW.PrintMore
open Go.Proofs.Ytpommkpgiogjgaa.Fkm
/-! ### rotation by any number -/
/-- the place a rotation by any number begins at -/
def spot (a : Int) (n : Nat) : Nat := (a % (n : Int)).toNat
theorem spot_lt (a : Int) (n : Nat) (h : 1 ≤ n) : spot a n < n := by
  have := Int.emod_nonneg a (show (n : Int) ≠ 0 by omega)
  have := Int.emod_lt_of_pos a (show (0 : Int) < n by omega)
  unfold spot
  omega
theorem spot_val (a : Int) (n : Nat) (h : 1 ≤ n) : ((spot a n : Nat) : Int) = a % (n : Int) := by
  have := Int.emod_nonneg a (show (n : Int) ≠ 0 by omega)
  unfold spot
  omega
theorem tmod_spot (a : Int) (n : Nat) (h : 1 ≤ n) (hn : n ≤ 100000) : Int.tmod (wrap64 ((Int.tmod a (n : Int)) + (n : Int))) (n : Int) = ((spot a n : Nat) : Int) := by
  have h1 : Int.tmod a (n : Int) < n := Int.tmod_lt_of_pos a (by omega)
  have h2 : -(n : Int) < Int.tmod a (n : Int) := by
    have := Int.tmod_lt_of_pos (-a) (show (0 : Int) < n by omega)
    rw [Int.neg_tmod] at this
    omega
  have e : wrap64 ((Int.tmod a (n : Int)) + (n : Int)) = Int.tmod a (n : Int) + n := by unfold wrap64; omega
  rw [e, Int.tmod_eq_emod_of_nonneg (by omega), spot_val a n h, Int.add_emod_right]
  have d := Int.mul_tdiv_add_tmod a (n : Int)
  conv => rhs; rw [← d]
  rw [Int.add_comm, Int.add_mul_emod_self_left]
theorem wrotate_any (l : List UInt8) (a : Int) (h : 1 ≤ l.length) (hl : l.length ≤ 100000) : word_rotate.f (mkB l) a = some (mkB (rotL l (spot a l.length))) := by
  rw [← rotate_f l (spot a l.length) (spot_lt a _ h) hl]
  unfold word_rotate.f schismalaw34_rotate.f
  rw [mkB_size, tmod_spot a l.length h hl, tmod_index (spot_lt a _ h) hl]
theorem rotate_any (l : List UInt8) (a : Int) (h : 1 ≤ l.length) (hl : l.length ≤ 100000) : schismalaw34_rotate.f (mkB l) a = some (mkB (rotL l (spot a l.length))) := wrotate_any l a h hl
theorem spot_add (a b : Int) (n : Nat) (h : 1 ≤ n) : (spot a n + spot b n) % n = spot (a + b) n := by
  have e : (((spot a n + spot b n) % n : Nat) : Int) = ((spot (a + b) n : Nat) : Int) := by
    rw [Int.natCast_emod, Int.natCast_add, spot_val a n h, spot_val b n h, spot_val (a + b) n h, ← Int.add_emod]
  omega
/-- the word rotated -/
def rotW (w : List Nat) (i : Nat) : List Nat := w.drop i ++ w.take i
theorem rotW_toU (w : List Nat) (i : Nat) : toU (rotW w i) = rotL (toU w) i := by
  unfold toU rotW rotL
  rw [List.map_append, List.map_drop, List.map_take]
theorem rotW_length (w : List Nat) (i : Nat) : (rotW w i).length = w.length := by simp [rotW]; omega
theorem rotW_mem (w : List Nat) (i c : Nat) (h : c ∈ rotW w i) : c ∈ w := by
  rcases List.mem_append.1 h with h | h
  · exact List.mem_of_mem_drop h
  · exact List.mem_of_mem_take h
theorem rotW_count (w : List Nat) (i c : Nat) : (rotW w i).count c = w.count c := by
  unfold rotW
  rw [List.count_append, Nat.add_comm, ← List.count_append, List.take_append_drop]
theorem rotW_few {w : List Nat} (h : Few w) (i : Nat) : Few (rotW w i) :=
  ⟨fun c hc => h.letters c (rotW_mem w i c hc), by rw [rotW_length]; exact h.pos, by rw [rotW_length]; exact h.len⟩
/-! ### Counts -/
theorem wcounts_l1 (w : List Nat) (i n : Nat) (c : Nat) (hc : c < 100) (hi : i < 1000) : ∀ (d k : Nat) (L : List Nat), c + 1 - L.length = d → L.length ≤ 1000 → (∀ x, L.getD x 0 ≤ 1000) → ∀ r,
    word_Counts.l0 k (mkB (toU w)) (nums (cstep L c)) (n : Int) ((i + 1 : Nat) : Int) = some r →
    word_Counts.l1 (k + 1 + d) (mkB (toU w)) (nums L) (c : Int) (n : Int) (i : Int) = some r := by
  intro d
  induction d with
  | zero =>
    intro k L hd hL hx r hr
    have e : cpad L c = L := by unfold cpad; rw [hd]; simp
    have hs : cstep L c = L.set c (L.getD c 0 + 1) := by unfold cstep; rw [e]
    have hx' := hx c
    rw [hs] at hr
    rw [show k + 1 + 0 = k + 1 from rfl, word_Counts.l1, nums_length, if_neg (by omega), if_pos (by omega), if_pos (by omega), Int.toNat_natCast, nums_rd, wrap_suc (by omega), nums_set, wrap_suc (by omega)]
    exact hr
  | succ d ih =>
    intro k L hd hL hx r hr
    have e : cpad (L ++ [0]) c = cpad L c := by
      unfold cpad
      rw [hd, List.length_append, List.append_assoc]
      congr 1
      rw [show c + 1 - (L.length + [0].length) = d by rw [List.length_singleton]; omega, List.replicate_succ]
      rfl
    have hs : cstep (L ++ [0]) c = cstep L c := by unfold cstep; rw [e]
    have h0 : nums L ++ [(0 : Int)] = nums (L ++ [0]) := by simp [nums]
    rw [show k + 1 + (d + 1) = k + 1 + d + 1 by omega, word_Counts.l1, nums_length, if_pos (by omega), if_pos (by omega), h0]
    refine ih k (L ++ [0]) (by rw [List.length_append, List.length_singleton]; omega) (by rw [List.length_append, List.length_singleton]; omega) ?_ r (by rw [hs]; exact hr)
    intro x
    have := hx x
    rw [List.getD_eq_getElem?_getD, List.getElem?_append]
    split
    · rw [← List.getD_eq_getElem?_getD]; exact this
    · cases x - L.length with
      | zero => simp
      | succ y => simp
theorem wcounts_l0 (w : List Nat) (hw : ∀ c ∈ w, c < 100) (hl : w.length ≤ 900) : ∀ (d i : Nat), i + d = w.length → ∀ k, 103 * d < k → word_Counts.l0 k (mkB (toU w)) (nums (ctsW (w.take i))) (w.length : Int) (i : Int) = some (nums (ctsW w), 0) := by
  intro d
  induction d with
  | zero =>
    intro i hi k hk
    obtain ⟨k, rfl⟩ : ∃ m, k = m + 1 := ⟨k - 1, by omega⟩
    rw [word_Counts.l0, if_neg (by omega), List.take_of_length_le (by omega)]
  | succ d ih =>
    intro i hi k hk
    have hil : i < w.length := by omega
    have hc := small_at hw i
    obtain ⟨p, q, r⟩ := ctsW_facts _ (w.take i) rfl
    have hlen := r 100 (fun c hc => hw c (List.mem_of_mem_take hc))
    have hb := toU_bt w hw i hil
    have hm : (97 + (w.getD i 0 : Int) - 97) % 256 = (w.getD i 0 : Int) := by omega
    have hk' : k = (k - 2 - (w.getD i 0 + 1 - (ctsW (w.take i)).length)) + 1 + (w.getD i 0 + 1 - (ctsW (w.take i)).length) + 1 := by omega
    rw [hk', word_Counts.l0, if_pos (by omega), if_pos (by omega), if_pos (by rw [mkB_size, toU_length]; omega), hb, hm]
    refine wcounts_l1 w i w.length (w.getD i 0) hc (by omega) _ _ _ rfl (by omega) ?_ _ ?_
    · intro x
      rw [q x]
      have := List.count_le_length (a := x) (l := w.take i)
      rw [List.length_take] at this
      omega
    · have e : ctsW (w.take (i + 1)) = cstep (ctsW (w.take i)) (w.getD i 0) := by
        rw [List.take_succ_eq_append_getElem hil, ctsW_snoc, List.getD_eq_getElem?_getD, List.getElem?_eq_getElem hil]
        rfl
      rw [← e]
      exact ih (i + 1) (by omega) _ (by omega)
theorem wcounts_f (w : List Nat) (hw : ∀ c ∈ w, c < 26) (h1 : 1 ≤ w.length) (hl : w.length ≤ 60) (k : Nat) (hk : 103 * w.length < k) : word_Counts.f k (mkB (toU w)) = some (nums (ctsW w), 0) := by
  unfold word_Counts.f
  rw [check_f w hw h1 hl k (by omega), Option.bind_some, if_pos rfl, mkB_size, toU_length]
  exact wcounts_l0 w (fun c hc => by have := hw c hc; omega) (by omega) w.length 0 (by omega) k hk
theorem cts_sum (w : List Nat) : (ctsW w).sum = w.length := by
  have sum_cstep : ∀ (L : List Nat) (c : Nat), (cstep L c).sum = L.sum + 1 := by
    intro L c
    have h := cpad_length L c
    have hs := sum_set (cstep L c) c (by rw [cstep_getD, if_pos rfl]; omega)
    have e : (cstep L c).set c ((cstep L c).getD c 0 - 1) = cpad L c := by
      rw [cstep_getD, if_pos rfl, Nat.add_sub_cancel]
      unfold cstep
      rw [List.set_set]
      apply List.ext_getElem?
      intro j
      rw [List.getElem?_set]
      split
      · rename_i e
        subst e
        rw [if_pos h.1, List.getElem?_eq_getElem h.1]
        have a := cpad_getD L c c
        rw [List.getD_eq_getElem?_getD, List.getElem?_eq_getElem h.1] at a
        exact congrArg some a.symm
      · rfl
    rw [e] at hs
    have : (cpad L c).sum = L.sum := by simp [cpad]
    omega
  induction hn : w.length generalizing w with
  | zero =>
    have : w = [] := List.length_eq_zero_iff.1 hn
    subst this; rfl
  | succ n ih =>
    have hne : w ≠ [] := by intro e; subst e; simp at hn
    obtain ⟨v, c, rfl⟩ : ∃ v c, w = v ++ [c] := ⟨w.dropLast, w.getLast hne, (List.dropLast_concat_getLast hne).symm⟩
    rw [ctsW_snoc, sum_cstep, ih v (by simpa using hn)]
end Go.Proofs.Ytpommkpgiogjgaa.X
