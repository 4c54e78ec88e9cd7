/- A periodic row of zeros and ones is balanced exactly if it is a Christoffel row, turned: plain mathematics. -/
namespace Go.Proofs.Ytpommkpgiogjgaa.Conj
/-- the sums -/
def S (x : Nat → Nat) : Nat → Nat
  | 0 => 0
  | i + 1 => S x i + x i
theorem S_le (x : Nat → Nat) (i m : Nat) : S x i ≤ S x (i + m) := by
  induction m with
  | zero => exact Nat.le_refl _
  | succ m ih => rw [← Nat.add_assoc, S]; omega
theorem S_per {x : Nat → Nat} {n : Nat} (hx : ∀ i, x (i + n) = x i) (i : Nat) : S x (i + n) = S x i + S x n := by
  induction i with
  | zero => rw [Nat.zero_add, S, Nat.zero_add]
  | succ i ih => rw [show i + 1 + n = i + n + 1 by omega, S, S, ih, hx]; omega
theorem S_mul {x : Nat → Nat} {n : Nat} (hx : ∀ i, x (i + n) = x i) (i k : Nat) : S x (i + k * n) = S x i + k * S x n := by
  induction k with
  | zero => simp
  | succ k ih => rw [Nat.succ_mul, ← Nat.add_assoc, S_per hx, ih, Nat.succ_mul]; omega
/-- balanced -/
def Bal (x : Nat → Nat) (n : Nat) : Prop := ∀ m i j, 1 ≤ m → m < n → S x (i + m) + S x j ≤ S x (j + m) + S x i + 1
/-- turned by r, a Christoffel row -/
def Chr (x : Nat → Nat) (n r : Nat) : Prop := ∀ i, i < n → x (r + i) + i * S x n / n = (i + 1) * S x n / n
theorem exists_max (f : Nat → Int) : ∀ n, 0 < n → ∃ r, r < n ∧ ∀ i, i < n → f i ≤ f r := by
  intro n
  induction n with
  | zero => intro h; omega
  | succ n ih =>
    intro _
    by_cases hn : n = 0
    · subst hn; exact ⟨0, by omega, fun i hi => by rw [show i = 0 by omega]; exact Int.le_refl _⟩
    · obtain ⟨r, hr, h⟩ := ih (by omega)
      by_cases c : f n ≤ f r
      · refine ⟨r, by omega, fun i hi => ?_⟩
        by_cases e : i = n
        · subst e; exact c
        · exact h i (by omega)
      · refine ⟨n, by omega, fun i hi => ?_⟩
        by_cases e : i = n
        · subst e; exact Int.le_refl _
        · have := h i (by omega); omega
/-- windows one behind the other -/
theorem tiles {x : Nat → Nat} {n m i c : Nat} (hb : Bal x n) (h1 : 1 ≤ m) (h2 : m < n) (hc : S x (i + m) = S x i + c) : ∀ k, S x (i + (k + 1) * m) + 1 ≤ S x i + (k + 1) * (c + 1) := by
  intro k
  induction k with
  | zero => simp only [Nat.zero_add, Nat.one_mul]; omega
  | succ k ih =>
    have a := hb m (i + (k + 1) * m) i h1 h2
    rw [Nat.succ_mul (k + 1) m, ← Nat.add_assoc, Nat.succ_mul (k + 1) (c + 1)]
    omega
theorem bal_chr {x : Nat → Nat} {n : Nat} (hn : 0 < n) (hx : ∀ i, x (i + n) = x i) (hb : Bal x n) : ∃ r, r < n ∧ Chr x n r := by
  obtain ⟨r, hr, hmax⟩ := exists_max (fun i => (n : Int) * (S x i : Int) - (i : Int) * (S x n : Int)) n hn
  -- the greatest among all
  have hall : ∀ i, n * S x i + r * S x n ≤ n * S x r + i * S x n := by
    intro i
    have aux : ∀ t, t < n → n * S x t + r * S x n ≤ n * S x r + t * S x n := by
      intro t ht
      have a := hmax t ht
      have : ((n * S x t + r * S x n : Nat) : Int) ≤ ((n * S x r + t * S x n : Nat) : Int) := by
        push_cast
        omega
      omega
    have a' := aux (i % n) (Nat.mod_lt _ hn)
    have b := S_mul hx (i % n) (i / n)
    have e : i % n + i / n * n = i := by rw [Nat.mul_comm]; exact Nat.mod_add_div i n
    rw [e] at b
    have e2 : i * S x n = i % n * S x n + i / n * n * S x n := by rw [← Nat.add_mul, e]
    have e3 : n * (i / n * S x n) = i / n * n * S x n := by rw [Nat.mul_left_comm, Nat.mul_assoc]
    rw [b, Nat.mul_add, e2, e3]
    omega
  have key : ∀ i, i ≤ n → S x (r + i) = S x r + i * S x n / n := by
    intro i hi
    obtain ⟨c, hc⟩ : ∃ c, S x (r + i) = S x r + c := ⟨S x (r + i) - S x r, by have := S_le x r i; omega⟩
    have up := hall (r + i)
    rw [hc, Nat.mul_add, Nat.add_mul] at up
    have up' : n * c ≤ i * S x n := by omega
    have low : i * S x n < n * (c + 1) := by
      by_cases h0 : i = 0
      · subst h0; rw [Nat.zero_mul, Nat.mul_add]; omega
      by_cases hin : i = n
      · subst hin
        have := S_per hx r
        have ec : c = S x i := by omega
        rw [ec, Nat.mul_add]; omega
      have t := tiles hb (show 1 ≤ i by omega) (show i < n by omega) hc (n - 1)
      rw [show n - 1 + 1 = n by omega, Nat.mul_comm n i, S_mul hx] at t
      omega
    have : i * S x n / n = c := by
      apply Nat.div_eq_of_lt_le
      · rw [Nat.mul_comm c n]; exact up'
      · rw [Nat.mul_comm (c + 1) n]; exact low
    rw [hc, this]
  refine ⟨r, hr, fun i hi => ?_⟩
  have a := key i (by omega)
  have b := key (i + 1) (by omega)
  rw [← Nat.add_assoc, S] at b
  omega
theorem chr_bal {x : Nat → Nat} {n r : Nat} (hn : 0 < n) (hx : ∀ i, x (i + n) = x i) (hr : r < n) (hc : Chr x n r) : Bal x n := by
  have key : ∀ i, i ≤ n → S x (r + i) = S x r + i * S x n / n := by
    intro i
    induction i with
    | zero => intro _; simp
    | succ i ih =>
      intro hi
      have a := ih (by omega)
      have b := hc i (by omega)
      rw [← Nat.add_assoc, S, a]
      omega
  have keyA : ∀ i, S x (r + i) = S x r + i * S x n / n := by
    intro i
    have a := key (i % n) (Nat.le_of_lt (Nat.mod_lt _ hn))
    have b := S_mul hx (r + i % n) (i / n)
    have e : i % n + i / n * n = i := by rw [Nat.mul_comm]; exact Nat.mod_add_div i n
    rw [Nat.add_assoc, e, a] at b
    have e2 : i * S x n = i % n * S x n + n * (i / n * S x n) := by
      rw [show n * (i / n * S x n) = i / n * n * S x n by rw [Nat.mul_left_comm, Nat.mul_assoc], ← Nat.add_mul, e]
    rw [b, e2, Nat.add_mul_div_left _ _ hn]
    omega
  have win : ∀ m i, ∃ q, S x (i + m) = S x i + q ∧ m * S x n / n ≤ q ∧ q ≤ m * S x n / n + 1 := by
    intro m i
    obtain ⟨j, hj⟩ : ∃ j, i + n = r + j := ⟨i + n - r, by omega⟩
    have a := keyA j
    have b := keyA (j + m)
    have c1 := S_per hx i
    have c2 := S_per hx (i + m)
    rw [show i + m + n = r + (j + m) by omega] at c2
    rw [hj] at c1
    have p := Nat.div_add_mod (j * S x n) n
    have q := Nat.div_add_mod (m * S x n) n
    have t := Nat.div_add_mod ((j + m) * S x n) n
    have p' := Nat.mod_lt (j * S x n) hn
    have q' := Nat.mod_lt (m * S x n) hn
    have t' := Nat.mod_lt ((j + m) * S x n) hn
    have hs : (j + m) * S x n = j * S x n + m * S x n := Nat.add_mul _ _ _
    rw [hs] at t t' b
    generalize j * S x n = u at *
    generalize m * S x n = v at *
    have f1 : u / n + v / n ≤ (u + v) / n := by
      apply Nat.le_of_lt_succ
      apply Nat.lt_of_mul_lt_mul_left (a := n)
      rw [Nat.mul_add, Nat.succ_eq_add_one, Nat.mul_add]
      omega
    have f2 : (u + v) / n ≤ u / n + v / n + 1 := by
      apply Nat.le_of_lt_succ
      apply Nat.lt_of_mul_lt_mul_left (a := n)
      rw [Nat.succ_eq_add_one, Nat.mul_add, Nat.mul_add, Nat.mul_add]
      omega
    clear p q t p' q' t' hs
    generalize (u + v) / n = A at *
    generalize u / n = B at *
    generalize v / n = C at *
    refine ⟨A - B, ?_, ?_, ?_⟩
    · omega
    · omega
    · omega
  intro m i j h1 h2
  obtain ⟨p, p1, p2, p3⟩ := win m i
  obtain ⟨q, q1, q2, q3⟩ := win m j
  omega
end Go.Proofs.Ytpommkpgiogjgaa.Conj
