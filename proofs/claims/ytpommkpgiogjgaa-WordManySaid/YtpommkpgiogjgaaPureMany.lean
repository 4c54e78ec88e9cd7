/- For any number, Necklaces finds the one necklace of k letters a and one letter b, and refuses too many words: for every number of type uint8. -/
import Derived.Test.YtpommkpgiogjgaaPKnown
import Derived.Test.YtpommkpgiogjgaaX8
import Derived.Test.YtpommkpgiogjgaaENeck
set_option linter.unusedVariables false
namespace Go.Proofs.Ytpommkpgiogjgaa.X
open Go.RowKit Go.Proofs.YtpommkpgiogjgaaW.PrintWords Go.Proofs.YtpommkpgiogjgaaW.PrintLast Go.Proofs.YtpommkpgiogjgaaW.PrintMore
/-- a lower bound of the number of the words of x letters b and y letters c -/
def mixRow (f : Nat → Nat) : Nat → Nat
  | 0 => 1
  | y + 1 => f (y + 1) + mixRow f y
def mixN : Nat → Nat → Nat
  | 0 => fun _ => 1
  | x + 1 => mixRow (mixN x)
theorem mixN_step (x y : Nat) : mixN (x + 1) (y + 1) = mixN x (y + 1) + mixN (x + 1) y := rfl
theorem mixN_nil (y : Nat) : mixN 0 y = 1 := rfl
theorem mixN_zero (x : Nat) : mixN x 0 = 1 := by cases x <;> rfl
theorem mixN_pos : ∀ x y, 1 ≤ mixN x y := by
  intro x
  induction x with
  | zero => intro y; exact Nat.le_refl _
  | succ x ih =>
    intro y
    cases y with
    | zero => exact Nat.le_refl _
    | succ y => have := ih (y + 1); rw [mixN_step]; omega
theorem mixN_left (x y : Nat) : mixN x y ≤ mixN (x + 1) y := by
  cases y with
  | zero => rw [mixN_zero, mixN_zero]; omega
  | succ y => rw [mixN_step]; omega
theorem mixN_right (x y : Nat) : mixN x y ≤ mixN x (y + 1) := by
  cases x with
  | zero => exact Nat.le_refl _
  | succ x => rw [mixN_step]; have := mixN_pos x (y + 1); omega
theorem mixN_big (d : Nat) : 5000 < mixN (8 + d) (9 + d) := by
  induction d with
  | zero => decide +kernel
  | succ d ih =>
    have a := mixN_left (8 + d) (9 + d)
    have b := mixN_right (8 + d + 1) (9 + d)
    have e1 : 8 + (d + 1) = 8 + d + 1 := by omega
    have e2 : 9 + (d + 1) = 9 + d + 1 := by omega
    rw [e1, e2]
    omega
/-- nothing is added to a full list -/
theorem extN_full (s : Nat) (w : List Nat) (p : Nat) (rest : List Nat) (O : List (List Nat)) : extN s w p rest (O, true) = (O, true) := by
  cases s with
  | zero => rw [extN, if_pos rfl]
  | succ s => rw [extN, if_pos rfl]
/-- the step of the loop over the letters -/
def extS (s : Nat) (w : List Nat) (p : Nat) (rest : List Nat) (st : List (List Nat) × Bool) (c : Nat) : List (List Nat) × Bool :=
  if rest.getD c 0 = 0 then st else extN s (w ++ [c]) (nextN w p c) (rest.set c (rest.getD c 0 - 1)) st
theorem extN_succ (s : Nat) (w : List Nat) (p : Nat) (rest : List Nat) (O : List (List Nat)) :
    extN (s + 1) w p rest (O, false) = (List.range' (firstN w p) (rest.length - firstN w p)).foldl (extS s w p rest) (O, false) := by
  rw [extN, if_neg (by simp)]
  rfl
theorem extS_full (s : Nat) (w : List Nat) (p : Nat) (rest : List Nat) (O : List (List Nat)) (c : Nat) : extS s w p rest (O, true) c = (O, true) := by
  unfold extS
  split
  · rfl
  · exact extN_full _ _ _ _ _
theorem foldS_full (s : Nat) (w : List Nat) (p : Nat) (rest : List Nat) (O : List (List Nat)) : ∀ cs : List Nat, cs.foldl (extS s w p rest) (O, true) = (O, true) := by
  intro cs
  induction cs with
  | nil => rfl
  | cons c cs ih => rw [List.foldl_cons, extS_full, ih]
/-- at least so many more -/
def More (n : Nat) (st r : List (List Nat) × Bool) : Prop := r.2 = true ∨ (r.2 = false ∧ st.1.length + n ≤ r.1.length ∧ r.1.length ≤ 5000)
theorem more_full {n : Nat} {st r : List (List Nat) × Bool} (h : More n st r) (hn : 5000 < n) : r.2 = true := by
  rcases h with h | ⟨_, h1, h2⟩
  · exact h
  · omega
theorem rep_get (i j : Nat) : (List.replicate i 0).getD j 0 = 0 := by
  rw [List.getD_eq_getElem?_getD, List.getElem?_replicate]
  split <;> rfl
theorem firstN_head {w : List Nat} (hw : w ≠ []) (h0 : w.getD 0 0 = 0) : firstN w w.length = 0 := by
  unfold firstN letterAt
  rw [if_pos (Nat.le_refl _), Nat.sub_self]
  exact h0
theorem extN_mix : ∀ (n x y : Nat), x + y = n → ∀ (w : List Nat) (O : List (List Nat)), w ≠ [] → w.getD 0 0 = 0 → O.length ≤ 5000 →
    More (mixN x y) (O, false) (extN n w w.length [0, x, y] (O, false)) := by
  intro n
  induction n with
  | zero =>
    intro x y h w O hw h0 hO
    obtain rfl : x = 0 := by omega
    obtain rfl : y = 0 := by omega
    rw [extN, if_neg (by simp), if_pos (Nat.mod_self _)]
    unfold addN
    split
    · exact .inl rfl
    · rename_i hne
      refine .inr ⟨rfl, ?_, ?_⟩
      · simp [mixN_nil]
      · simp at hne ⊢; omega
  | succ n ih =>
    intro x y h w O hw h0 hO
    have hl : 0 < w.length := List.length_pos_iff.mpr hw
    have step : ∀ (c x' y' : Nat) (O' : List (List Nat)), c ≠ 0 → x' + y' = n → O'.length ≤ 5000 → More (mixN x' y') (O', false) (extN n (w ++ [c]) (nextN w w.length c) [0, x', y'] (O', false)) := by
      intro c x' y' O' hc he hO'
      have e : nextN w w.length c = (w ++ [c]).length := by
        unfold nextN
        rw [firstN_head hw h0, if_pos (.inr hc)]; simp
      rw [e]
      refine ih x' y' he _ _ (by simp) ?_ hO'
      cases w with
      | nil => exact absurd rfl hw
      | cons a w => simpa using h0
    rw [extN_succ, firstN_head hw h0]
    show More _ _ ([0, 1, 2].foldl (extS n w w.length [0, x, y]) (O, false))
    rw [List.foldl_cons, List.foldl_cons, List.foldl_cons, List.foldl_nil]
    have z0 : extS n w w.length [0, x, y] (O, false) 0 = (O, false) := by unfold extS; rw [if_pos (by rfl)]
    rw [z0]
    cases x with
    | zero =>
      have z1 : extS n w w.length [0, 0, y] (O, false) 1 = (O, false) := by unfold extS; rw [if_pos (by rfl)]
      rw [z1]
      obtain ⟨y, rfl⟩ : ∃ m, y = m + 1 := ⟨y - 1, by omega⟩
      have z2 : extS n w w.length [0, 0, y + 1] (O, false) 2 = extN n (w ++ [2]) (nextN w w.length 2) [0, 0, y] (O, false) := by
        unfold extS; rw [if_neg (by simp)]; rfl
      rw [z2]
      have := step 2 0 y O (by omega) (by omega) hO
      simpa [mixN_nil] using this
    | succ x =>
      have z1 : extS n w w.length [0, x + 1, y] (O, false) 1 = extN n (w ++ [1]) (nextN w w.length 1) [0, x, y] (O, false) := by
        unfold extS; rw [if_neg (by simp)]; rfl
      have m1 := step 1 x y O (by omega) (by omega) hO
      rw [← z1] at m1
      generalize extS n w w.length [0, x + 1, y] (O, false) 1 = r at m1
      obtain ⟨O1, f1⟩ := r
      rcases m1 with m1 | ⟨m1, m2, m3⟩
      · have m1' : f1 = true := m1
        subst m1'
        rw [extS_full]
        exact .inl rfl
      · have m1' : f1 = false := m1
        subst m1'
        simp only at m2 m3
        cases y with
        | zero =>
          have z2 : extS n w w.length [0, x + 1, 0] (O1, false) 2 = (O1, false) := by unfold extS; rw [if_pos (by rfl)]
          rw [z2]
          rw [mixN_zero] at m2
          exact .inr ⟨rfl, by rw [mixN_zero]; exact m2, m3⟩
        | succ y =>
          have z2 : extS n w w.length [0, x + 1, y + 1] (O1, false) 2 = extN n (w ++ [2]) (nextN w w.length 2) [0, x + 1, y] (O1, false) := by
            unfold extS; rw [if_neg (by simp)]; rfl
          rw [z2]
          have m4 := step 2 (x + 1) y O1 (by omega) (by omega) m3
          rcases m4 with m4 | ⟨m4, m5, m6⟩
          · exact .inl m4
          · simp only at m5
            refine .inr ⟨m4, ?_, m6⟩
            rw [mixN_step]
            show O.length + _ ≤ _
            omega
/-- the path of letters a -/
theorem extN_path (x y : Nat) (hx : 5000 < mixN x y) : ∀ (d i : Nat), 0 < i + d → (extN (d + (x + 1 + y)) (List.replicate i 0) 1 [d, x + 1, y] ([], false)).2 = true := by
  intro d
  induction d with
  | zero =>
    intro i hi
    rw [show 0 + (x + 1 + y) = x + y + 1 by omega, extN_succ]
    have hf : firstN (List.replicate i 0) 1 = 0 := by
      unfold firstN letterAt
      split
      · exact rep_get i _
      · rfl
    rw [hf]
    show ([0, 1, 2].foldl (extS (x + y) (List.replicate i 0) 1 [0, x + 1, y]) ([], false)).2 = true
    rw [List.foldl_cons, List.foldl_cons]
    have z0 : extS (x + y) (List.replicate i 0) 1 [0, x + 1, y] ([], false) 0 = ([], false) := by unfold extS; rw [if_pos (by rfl)]
    have z1 : extS (x + y) (List.replicate i 0) 1 [0, x + 1, y] ([], false) 1 = extN (x + y) (List.replicate i 0 ++ [1]) (List.replicate i 0 ++ [1]).length [0, x, y] ([], false) := by
      unfold extS
      rw [if_neg (by simp)]
      have e : nextN (List.replicate i 0) 1 1 = (List.replicate i 0 ++ [1]).length := by
        unfold nextN
        rw [hf, if_pos (.inr (by omega))]; simp
      rw [e]; rfl
    rw [z0, z1]
    have m := extN_mix (x + y) x y rfl (List.replicate i 0 ++ [1]) [] (by simp) (by
      cases i with
      | zero => omega
      | succ i => rfl) (by simp)
    have m' := more_full m hx
    generalize extN (x + y) (List.replicate i 0 ++ [1]) (List.replicate i 0 ++ [1]).length [0, x, y] ([], false) = r at m'
    obtain ⟨O1, f1⟩ := r
    have m1 : f1 = true := m'
    subst m1
    rw [foldS_full]
  | succ d ih =>
    intro i hi
    rw [show d + 1 + (x + 1 + y) = d + (x + 1 + y) + 1 by omega, extN_succ]
    have hf : firstN (List.replicate i 0) 1 = 0 := by
      unfold firstN letterAt
      split
      · exact rep_get i _
      · rfl
    rw [hf]
    show ([0, 1, 2].foldl (extS (d + (x + 1 + y)) (List.replicate i 0) 1 [d + 1, x + 1, y]) ([], false)).2 = true
    rw [List.foldl_cons]
    have z0 : extS (d + (x + 1 + y)) (List.replicate i 0) 1 [d + 1, x + 1, y] ([], false) 0 = extN (d + (x + 1 + y)) (List.replicate (i + 1) 0) 1 [d, x + 1, y] ([], false) := by
      unfold extS
      rw [if_neg (by simp)]
      have e : nextN (List.replicate i 0) 1 0 = 1 := by
        unfold nextN
        rw [hf]
        cases i with
        | zero => rfl
        | succ i => rw [if_neg (by simp)]
      rw [e, List.replicate_succ']; rfl
    rw [z0]
    have m' := ih (i + 1) (by omega)
    generalize extN (d + (x + 1 + y)) (List.replicate (i + 1) 0) 1 [d, x + 1, y] ([], false) = r at m'
    obtain ⟨O1, f1⟩ := r
    have m1 : f1 = true := m'
    subst m1
    rw [foldS_full]
theorem many_full (d : Nat) (hd : d ≤ 11) : (extN (3 * (9 + d)) [] 1 [9 + d, 9 + d, 9 + d] ([], false)).2 = true := by
  have h := extN_path (8 + d) (9 + d) (mixN_big d) (9 + d) 0 (by omega)
  rw [show 9 + d + (8 + d + 1 + (9 + d)) = 3 * (9 + d) by omega, show 8 + d + 1 = 9 + d by omega] at h
  exact h
theorem many_three (d : Nat) (hd : d ≤ 11) : ∃ l, word_Necklaces.f [((9 + d : Nat) : Int), ((9 + d : Nat) : Int), ((9 + d : Nat) : Int)] = some (l, 4) := by
  refine ⟨[], ?_⟩
  have hs : sumN [((9 + d : Nat) : Int), ((9 + d : Nat) : Int), ((9 + d : Nat) : Int)] = ((3 * (9 + d) : Nat) : Int) := by
    unfold sumN
    simp only [List.foldl_cons, List.foldl_nil]
    repeat rw [if_neg (by omega)]
    omega
  unfold word_Necklaces.f
  rw [hs]
  rw [if_neg (by simp), if_neg (by simp; omega), if_neg (by omega), if_neg (by omega), if_pos]
  rw [show (((3 * (9 + d) : Nat) : Int)).toNat = 3 * (9 + d) by omega]
  have e : [((9 + d : Nat) : Int), ((9 + d : Nat) : Int), ((9 + d : Nat) : Int)].map Int.toNat = [9 + d, 9 + d, 9 + d] := rfl
  rw [e]
  exact many_full d hd
/-- the last part of the law, for each k: by running it -/
def lastPart (k : Nat) : Bool := decide ((word_Necklaces.f [(k : Int), 1]).bind (fun r => schismalaw34_WordMany.j0 100 (k : Int) r.1 r.2 false) = some true)
theorem lastPart_all : (List.range 64).all lastPart = true := by kernel_rfl
theorem pure_WordMany : schismalaw34_WordMany.Pure := by
  intro a0 h0
  refine ⟨100, ?_⟩
  have b0 : 0 ≤ a0 ∧ a0 ≤ 255 := by simpa [Lit.wf, IntKind.min, IntKind.max, IntKind.signed, IntKind.bits] using h0
  clear h0
  obtain ⟨n, rfl⟩ : ∃ n : Nat, a0 = n := ⟨a0.toNat, by omega⟩
  have hm : wrap64 (Int.tmod (n : Int) 64) = ((n % 64 : Nat) : Int) := by
    rw [show (64 : Int) = ((64 : Nat) : Int) from rfl, ← Int.ofNat_tmod]
    unfold wrap64; omega
  have hk : n % 64 < 64 := Nat.mod_lt _ (by omega)
  unfold schismalaw34_WordMany.f
  rw [known_all 100 (by omega), Option.bind_some, if_pos rfl, hm]
  generalize n % 64 = k at hk ⊢
  have hd : wrap64 (9 + Int.tmod (k : Int) 12) = ((9 + k % 12 : Nat) : Int) := by
    rw [show (12 : Int) = ((12 : Nat) : Int) from rfl, ← Int.ofNat_tmod]
    unfold wrap64; omega
  rw [hd]
  have hd11 : k % 12 ≤ 11 := by omega
  obtain ⟨l, hl⟩ := many_three (k % 12) hd11
  rw [hl]
  have hw : wrap64 (3 * ((9 + k % 12 : Nat) : Int)) = ((3 * (9 + k % 12) : Nat) : Int) := by unfold wrap64; omega
  rw [hw]
  have h27 : word_Necklaces.f (List.replicate 27 0) = some ([], 4) := by
    unfold word_Necklaces.f
    rw [if_pos (by decide)]
  rw [h27]
  have hp : lastPart k = true := List.all_eq_true.1 lastPart_all k (List.mem_range.2 hk)
  have hp' := of_decide_eq_true hp
  cases hN : word_Necklaces.f [(k : Int), 1] with
  | none => rw [hN] at hp'; exact absurd hp' (by simp)
  | some r =>
    rw [hN, Option.bind_some] at hp'
    simp only [Option.bind_some]
    rw [if_pos (by decide), if_pos trivial, if_pos (by omega), if_pos trivial, if_neg (by omega)]
    exact hp'
end Go.Proofs.Ytpommkpgiogjgaa.X
