/- For any list of numbers, Necklaces returns just the necklaces, in order, or the first error: the plain law. -/
import Derived.Test.YtpommkpgiogjgaaPKnown
import Derived.Test.YtpommkpgiogjgaaPNeck
import Derived.Test.YtpommkpgiogjgaaENeck
import Derived.Test.YtpommkpgiogjgaaX4
import Derived.Test.YtpommkpgiogjgaaX7
set_option linter.unusedVariables false
namespace Go.Proofs.Ytpommkpgiogjgaa.X
open Go.RowKit Go.Proofs.YtpommkpgiogjgaaW.PrintWords Go.Proofs.YtpommkpgiogjgaaW.PrintLast Go.Proofs.YtpommkpgiogjgaaW.PrintMore
open Go.Proofs.Ytpommkpgiogjgaa.Fkm
theorem same_l0 (A : List ByteArray) (hA : A.length ≤ 100000) : ∀ d k i, i + d = A.length → d < k → schismalaw34_same.l0 k A A (i : Int) = some true := by
  intro d
  induction d with
  | zero =>
    intro k i hi hk
    obtain ⟨k, rfl⟩ : ∃ m, k = m + 1 := ⟨k - 1, by omega⟩
    rw [schismalaw34_same.l0, if_neg (by omega)]
  | succ d ih =>
    intro k i hi hk
    obtain ⟨k, rfl⟩ : ∃ m, k = m + 1 := ⟨k - 1, by omega⟩
    rw [schismalaw34_same.l0, if_pos (by omega), if_pos (by omega), if_pos (by omega), if_pos rfl, wrap_suc (by omega)]
    exact ih k (i + 1) (by omega) (by omega)
theorem same_f (A : List ByteArray) (hA : A.length ≤ 100000) (k : Nat) (hk : A.length < k) : schismalaw34_same.f k A A = some true := by
  unfold schismalaw34_same.f
  rw [if_pos rfl]
  exact same_l0 A hA A.length k 0 (by omega) hk
/-! ### the small lists -/
def lists : Nat → List (List Nat)
  | 0 => [[]]
  | n + 1 => (lists n).flatMap fun R => (List.range 5).map (· :: R)
theorem mem_lists : ∀ (R : List Nat), (∀ x ∈ R, x ≤ 4) → R ∈ lists R.length := by
  intro R
  induction R with
  | nil => intro _; simp [lists]
  | cons a R ih =>
    intro h
    rw [List.length_cons, lists, List.mem_flatMap]
    exact ⟨R, ih (fun x hx => h x (by simp [hx])), by simp; have := h a (by simp); omega⟩
/-- the product 1 * 2 * .. * n -/
def facN : Nat → Nat
  | 0 => 1
  | n + 1 => (n + 1) * facN n
def prodF : List Nat → Nat
  | [] => 1
  | a :: R => facN a * prodF R
theorem facN_pos : ∀ n, 0 < facN n := by
  intro n
  induction n with
  | zero => exact Nat.one_pos
  | succ n ih => exact Nat.mul_pos (Nat.succ_pos n) ih
theorem prodF_pos : ∀ R, 0 < prodF R := by
  intro R
  induction R with
  | nil => exact Nat.one_pos
  | cons a R ih => exact Nat.mul_pos (facN_pos a) ih
theorem prodF_set : ∀ (R : List Nat) (i : Nat), R.getD i 0 ≠ 0 → prodF R = R.getD i 0 * prodF (R.set i (R.getD i 0 - 1)) := by
  intro R
  induction R with
  | nil => intro i h; simp at h
  | cons a R ih =>
    intro i h
    cases i with
    | zero =>
      have h' : a ≠ 0 := by simpa using h
      obtain ⟨a, rfl⟩ : ∃ m, a = m + 1 := ⟨a - 1, by omega⟩
      show (a + 1) * facN a * prodF R = (a + 1) * (facN a * prodF R)
      rw [Nat.mul_assoc]
    | succ i =>
      have h' : R.getD i 0 ≠ 0 := by simpa using h
      have e := ih i h'
      show facN a * prodF R = R.getD i 0 * (facN a * prodF (R.set i (R.getD i 0 - 1)))
      rw [e, Nat.mul_left_comm]
theorem sum_mul_le (l : List Nat) (f g : Nat → Nat) (P Q : Nat) (h : ∀ i, f i * P ≤ g i * Q) : (l.map f).sum * P ≤ (l.map g).sum * Q := by
  induction l with
  | nil => simp
  | cons a l ih =>
    rw [List.map_cons, List.map_cons, List.sum_cons, List.sum_cons, Nat.add_mul, Nat.add_mul]
    exact Nat.add_le_add (h a) ih
theorem sum_getD (R : List Nat) : ((List.range R.length).map fun i => R.getD i 0).sum = R.sum := by
  induction R with
  | nil => rfl
  | cons a R ih =>
    rw [List.length_cons, List.range_succ_eq_map, List.map_cons, List.map_map, List.sum_cons, List.sum_cons]
    have e : ((fun i => (a :: R).getD i 0) ∘ Nat.succ) = fun i => R.getD i 0 := by
      funext i; simp
    rw [e, ih]
    simp
theorem mul_fac : ∀ (s : Nat) (R : List Nat), R.sum = s → mulN s R * prodF R ≤ facN s := by
  intro s
  induction s with
  | zero =>
    intro R h
    have hz : ∀ R : List Nat, R.sum = 0 → prodF R = 1 := by
      intro R
      induction R with
      | nil => intro _; rfl
      | cons a R ih =>
        intro h
        rw [List.sum_cons] at h
        have : a = 0 := by omega
        subst this
        show facN 0 * prodF R = 1
        rw [ih (by omega)]
        rfl
    rw [mulN, hz R h]
    exact Nat.le_refl _
  | succ s ih =>
    intro R h
    rw [mulN]
    have key := sum_mul_le (List.range R.length) (fun i => if R.getD i 0 = 0 then 0 else mulN s (R.set i (R.getD i 0 - 1))) (fun i => R.getD i 0) (prodF R) (facN s) (by
      intro i
      by_cases hz : R.getD i 0 = 0
      · simp only [hz]; simp
      · simp only [if_neg hz]
        rw [prodF_set R i hz, Nat.mul_left_comm]
        refine Nat.mul_le_mul_left _ (ih _ ?_)
        have := sum_set R i hz
        omega)
    rw [sum_getD, h] at key
    exact key
def fits (R : List Nat) : Bool := decide (8 < R.sum) || decide (facN R.sum ≤ 5000 * prodF R)
theorem fits_all : ((List.range 5).all fun n => (lists n).all fits) = true := by kernel_rfl
theorem mul_small (R : List Nat) (hl : R.length ≤ 4) (hx : ∀ x ∈ R, x ≤ 4) (hs : R.sum ≤ 8) : mulN R.sum R ≤ 5000 := by
  have a := List.all_eq_true.1 fits_all R.length (List.mem_range.2 (by omega))
  have b := List.all_eq_true.1 a R (mem_lists R hx)
  unfold fits at b
  rw [Bool.or_eq_true, decide_eq_true_eq, decide_eq_true_eq] at b
  have c := mul_fac R.sum R rfl
  have d : facN R.sum ≤ 5000 * prodF R := by omega
  exact Nat.le_of_mul_le_mul_right (Nat.le_trans c d) (prodF_pos R)
theorem sumN_fold : ∀ (R : List Nat) (a : Nat), a + R.sum ≤ 61 → (nums R).foldl (fun (n k : Int) => if 61 < n + (if 61 < k then 61 else k) then 61 else n + (if 61 < k then 61 else k)) (a : Int) = ((a + R.sum : Nat) : Int) := by
  intro R
  induction R with
  | nil => intro a _; simp [nums]
  | cons x R ih =>
    intro a h
    rw [List.sum_cons] at h
    show (nums R).foldl _ (if 61 < (a : Int) + (if 61 < (x : Int) then 61 else (x : Int)) then 61 else (a : Int) + (if 61 < (x : Int) then 61 else (x : Int))) = _
    rw [if_neg (show ¬ (61 : Int) < (x : Int) by omega), if_neg (by omega), ← Int.natCast_add, ih (a + x) (by omega), List.sum_cons, Nat.add_assoc]
theorem sumN_nums (R : List Nat) (h : R.sum ≤ 60) : sumN (nums R) = (R.sum : Int) := by
  have := sumN_fold R 0 (by omega)
  unfold sumN
  simpa using this
theorem nums_toNat (R : List Nat) : (nums R).map Int.toNat = R := by
  unfold nums
  rw [List.map_map]
  exact List.map_id' R
theorem nums_any (R : List Nat) : ((nums R).any fun k => decide (k < 0)) = false := by
  rw [List.any_eq_false]
  intro x hx
  unfold nums at hx
  rw [List.mem_map] at hx
  obtain ⟨y, _, rfl⟩ := hx
  simp
theorem neck_small (R : List Nat) (hl : R.length ≤ 4) (hx : ∀ x ∈ R, x ≤ 4) (hs : R.sum ≤ 8) (h1 : 1 ≤ R.sum) :
    word_Necklaces.f (nums R) = some ((refN R.sum [] R).map toB, 0) ∧ (refN R.sum [] R).length ≤ 5000 := by
  have hp : progN R.sum [] 1 R = refN R.sum [] R := prog_ref R.sum [] 1 R (.inl ⟨rfl, rfl⟩) (fun h => by omega)
  have hlen := prog_len R.sum [] 1 R
  have hm := mul_small R hl hx hs
  rw [hp] at hlen
  have he := ext_prog R.sum [] 1 R [] (by rw [hp]; simp; omega)
  rw [hp, List.nil_append] at he
  refine ⟨?_, by omega⟩
  unfold word_Necklaces.f
  rw [nums_length, if_neg (by omega), nums_any, if_neg (by simp), sumN_nums R (by omega), if_neg (by omega), if_neg (by omega), Int.toNat_natCast, nums_toNat, he, if_neg (by simp)]
/-! ### the law's loop -/
def wantI (L : List Int) : Int := if (L.any fun x => decide (x < 0)) = true then 3 else 0
def sumI (L : List Int) : Int := (L.map fun x => mx x 0).sum
theorem any_snoc (L : List Int) (x : Int) : wantI (L ++ [x]) = if x < 0 then 3 else wantI L := by
  unfold wantI
  rw [List.any_append]
  by_cases h : x < 0
  · rw [if_pos h, if_pos (by simp [h])]
  · have e : ([x].any fun x => decide (x < 0)) = false := by simp; omega
    rw [if_neg h, e, Bool.or_false]
theorem sumI_snoc (L : List Int) (x : Int) : sumI (L ++ [x]) = sumI L + mx x 0 := by
  unfold sumI
  simp
theorem mx_zero (x : Int) (h : x ≤ 4) : 0 ≤ mx x 0 ∧ mx x 0 ≤ 4 := by
  unfold mx
  split <;> omega
theorem sumI_nums (R : List Nat) : sumI (nums R) = (R.sum : Int) := by
  induction R with
  | nil => rfl
  | cons a R ih =>
    have e : sumI (nums (a :: R)) = mx (a : Int) 0 + sumI (nums R) := by simp [sumI, nums]
    rw [e, ih, List.sum_cons, Int.natCast_add]
    have : mx (a : Int) 0 = (a : Int) := by unfold mx; split <;> omega
    rw [this]
theorem law_end (L : List Int) (hl : L.length ≤ 4) (h4 : ∀ x ∈ L, x ≤ 4) (k : Nat) (hk : 6000 ≤ k) (i : Int) (hi : i = (L.length : Int)) : schismalaw34_WordNecklaces.l0 k L (wantI L) (sumI L) i = some true := by
  obtain ⟨k, rfl⟩ : ∃ m, k = m + 4 := ⟨k - 4, by omega⟩
  subst hi
  rw [schismalaw34_WordNecklaces.l0, if_neg (by omega)]
  unfold wantI
  by_cases hn : (L.any fun x => decide (x < 0)) = true
  · rw [if_pos hn, if_neg (by decide), schismalaw34_WordNecklaces.j2, if_neg (by decide), schismalaw34_WordNecklaces.j3, if_neg (by decide), schismalaw34_WordNecklaces.j4, if_neg (by decide)]
    have e : word_Necklaces.f L = some ([], 3) := by
      unfold word_Necklaces.f
      rw [if_neg (by omega), if_pos hn]
    rw [e]
    rfl
  · rw [if_neg hn, if_pos rfl, schismalaw34_WordNecklaces.j2]
    have hn' : ∀ x ∈ L, 0 ≤ x := by
      intro x hx
      have := List.any_eq_false.1 (Bool.eq_false_iff.2 hn) x hx
      simp at this; exact this
    obtain ⟨R, rfl⟩ : ∃ R, L = nums R := by
      refine ⟨L.map Int.toNat, ?_⟩
      unfold nums
      rw [List.map_map]
      conv => lhs; rw [← List.map_id L]
      exact List.map_congr_left (fun x hx => by have := hn' x hx; simp; omega)
    rw [nums_length] at hl
    have h4' : ∀ x ∈ R, x ≤ 4 := by
      intro x hx
      have := h4 (x : Int) (by unfold nums; exact List.mem_map.2 ⟨x, hx, rfl⟩)
      omega
    rw [sumI_nums]
    by_cases h0 : R.sum = 0
    · rw [h0, if_pos (by decide), schismalaw34_WordNecklaces.j3, if_neg (by decide), schismalaw34_WordNecklaces.j4, if_neg (by decide)]
      have e : word_Necklaces.f (nums R) = some ([], 13) := by
        unfold word_Necklaces.f
        rw [nums_length, if_neg (by omega), nums_any, if_neg (by simp), sumN_nums R (by omega), if_pos (by omega)]
      rw [e]
      rfl
    · rw [if_neg (by simp; omega), schismalaw34_WordNecklaces.j3, if_pos rfl, schismalaw34_WordNecklaces.j4]
      by_cases h8 : R.sum ≤ 8
      · rw [if_neg (by simp; omega)]
        obtain ⟨a, b⟩ := neck_small R hl h4' h8 (by omega)
        have c := ref_said R.sum h8 [] R (by simp) hl rfl (fun h => absurd h h0) (by simp; omega) k (by omega)
        have c' : schismalaw34_necklaces.f k (⟨#[]⟩ : ByteArray) (nums R) = some ((refN R.sum [] R).map toB) := c
        rw [a, Option.bind_some, if_pos rfl, if_pos rfl, c', Option.bind_some]
        simp only
        rw [same_f _ (by rw [List.length_map]; omega) k (by rw [List.length_map]; omega)]
        rfl
      · rw [if_pos (by simp; omega)]
theorem law_loop (L : List Int) (hl : L.length ≤ 4) : ∀ d i k, i + d = L.length → (∀ x ∈ L.take i, x ≤ 4) → 0 ≤ sumI (L.take i) → sumI (L.take i) ≤ 4 * i → 6000 + d ≤ k →
    schismalaw34_WordNecklaces.l0 k L (wantI (L.take i)) (sumI (L.take i)) (i : Int) = some true := by
  intro d
  induction d with
  | zero =>
    intro i k hi h4 _ _ hk
    have e : L.take i = L := List.take_of_length_le (by omega)
    rw [e] at h4 ⊢
    exact law_end L hl h4 k (by omega) _ (by omega)
  | succ d ih =>
    intro i k hi h4 hs0 hs1 hk
    obtain ⟨k, rfl⟩ : ∃ m, k = m + 1 := ⟨k - 1, by omega⟩
    have hil : i < L.length := by omega
    have hrd : rd L (i : Int) = L[i] := by
      unfold rd
      rw [Int.toNat_natCast, List.getD_eq_getElem?_getD, List.getElem?_eq_getElem hil]; rfl
    rw [schismalaw34_WordNecklaces.l0, if_pos (by omega), if_pos (by omega), hrd]
    by_cases hb : L[i] > 4
    · rw [if_pos hb]
    · have hb' : L[i] ≤ 4 := by omega
      have ht : L.take (i + 1) = L.take i ++ [L[i]] := List.take_succ_eq_append_getElem hil
      have hm := mx_zero L[i] hb'
      have hw : wrap64 (sumI (L.take i) + mx L[i] 0) = sumI (L.take (i + 1)) := by
        rw [ht, sumI_snoc]; unfold wrap64; omega
      have hr := ih (i + 1) k (by omega) (by
        rw [ht]
        intro x hx
        rcases List.mem_append.1 hx with h | h
        · exact h4 x h
        · have : x = L[i] := by simpa using h
          omega) (by rw [ht, sumI_snoc]; omega) (by rw [ht, sumI_snoc]; omega) (by omega)
      rw [if_neg hb, hw, wrap_suc (by omega)]
      have hwant : wantI (L.take (i + 1)) = if L[i] < 0 then 3 else wantI (L.take i) := by rw [ht, any_snoc]
      by_cases hneg : L[i] < 0
      · rw [if_pos hneg] at hwant ⊢
        rw [← hwant]; exact hr
      · rw [if_neg hneg] at hwant ⊢
        rw [← hwant]; exact hr
theorem pure_WordNecklaces : schismalaw34_WordNecklaces.Pure := by
  intro L _ _ _
  refine ⟨10000, ?_⟩
  unfold schismalaw34_WordNecklaces.f
  rw [known_all 10000 (by omega), Option.bind_some, if_pos rfl]
  by_cases hl : (L.length : Int) > 4
  · rw [decide_eq_true hl, show 10000 = 9999 + 1 from rfl, schismalaw34_WordNecklaces.j0, if_pos rfl, known_all 9999 (by omega)]
    rfl
  · rw [decide_eq_false hl, show 10000 = 9999 + 1 from rfl, schismalaw34_WordNecklaces.j0, if_neg (by decide)]
    exact law_loop L (by omega) L.length 0 9999 (by omega) (by simp) (by simp [sumI]) (by simp [sumI]) (by omega)
end Go.Proofs.Ytpommkpgiogjgaa.X
