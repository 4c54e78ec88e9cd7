/- The reference's balanced finds the same first witness as the program: the plain law. -/
import Derived.Test.YtpommkpgiogjgaaPMake
import Derived.Test.YtpommkpgiogjgaaEBal
import Derived.Test.YtpommkpgiogjgaaX3
set_option linter.unusedVariables false
namespace Go.Proofs.Ytpommkpgiogjgaa.X
open Go.RowKit Go.Proofs.YtpommkpgiogjgaaW.PrintWords Go.Proofs.YtpommkpgiogjgaaW.PrintLast Go.Proofs.YtpommkpgiogjgaaW.PrintMore
/-- from some number of rounds on, the answer is R -/
def Ends {α : Type} (f : Nat → Option α) (R : α) : Prop := ∃ K, ∀ k, K ≤ k → f k = some R
theorem Ends.succ {α : Type} {f g : Nat → Option α} {R : α} (h : Ends g R) (e : ∀ k, f (k + 1) = g k) : Ends f R := by
  obtain ⟨K, h⟩ := h
  refine ⟨K + 1, fun k hk => ?_⟩
  obtain ⟨k, rfl⟩ : ∃ m, k = m + 1 := ⟨k - 1, by omega⟩
  rw [e]; exact h k (by omega)
theorem Ends.from {α : Type} {f g : Nat → Option α} {R : α} (h : Ends g R) (M : Nat) (e : ∀ k, M ≤ k → f (k + 1) = g k) : Ends f R := by
  obtain ⟨K, h⟩ := h
  refine ⟨K + M + 1, fun k hk => ?_⟩
  obtain ⟨k, rfl⟩ : ∃ m, k = m + 1 := ⟨k - 1, by omega⟩
  rw [e k (by omega)]; exact h k (by omega)
theorem Ends.const {α : Type} (R : α) : Ends (fun _ => some R) R := ⟨0, fun _ _ => rfl⟩
/-- the answer at a witness -/
def resB : Nat × Nat × Nat × Nat → Int × Int × Int × ByteArray × Bool
  | (n, i, j, c) => ((n : Int), (i : Int), (j : Int), letterB c, false)
theorem cnt_none (w : List Nat) (hw : ∀ c ∈ w, c < 100) (h1 : 1 ≤ w.length) (c : Nat) (hc : c ∉ w) (i n : Nat) : cntN (mkB (toU w)) i n c = 0 := by
  induction n with
  | zero => rfl
  | succ n ih =>
    rw [cntN_succ, ih, if_neg]
    intro e
    apply hc
    rw [← e, toU_lt w hw h1, List.getD_eq_getElem?_getD, List.getElem?_eq_getElem (Nat.mod_lt _ (by omega))]
    exact List.getElem_mem _
theorem wC_rest (w : List Nat) (hw : ∀ c ∈ w, c < 100) (h1 : 1 ≤ w.length) (n i j : Nat) : ∀ (d c : Nat), c + d = 26 → (∀ x, c ≤ x → x ∉ w) → wC (mkB (toU w)) n i j c = none := by
  intro d
  induction d with
  | zero => intro c h _; rw [show c = 26 by omega]; exact wC_end _ _ _ _
  | succ d ih =>
    intro c h hx
    rw [wC_next (by omega) (by unfold badB; rw [cnt_none w hw h1 c (hx c (Nat.le_refl _)), cnt_none w hw h1 c (hx c (Nat.le_refl _))]; rfl)]
    exact ih (c + 1) (by omega) (fun x hx' => hx x (by omega))
theorem b3 {w : List Nat} (hw : ∀ c ∈ w, c < 26) (h1 : 1 ≤ w.length) (hl : w.length ≤ 1000) {m : Nat} (hm : m ≤ 26) (hwm : ∀ c ∈ w, c < m) {n i j : Nat} (hn : n ≤ 1000) (hi : i ≤ 1000) (hj : j < 1000) : ∀ (d c : Nat), c + d = m →
    ∀ R, (∀ q, wC (mkB (toU w)) n i j c = some q → R = resB q) → (wC (mkB (toU w)) n i j c = none → Ends (fun k => schismalaw34_balanced.l2 k (mkB (toU w)) (m : Int) (n : Int) (i : Int) ((j + 1 : Nat) : Int)) R) →
    Ends (fun k => schismalaw34_balanced.l3 k (mkB (toU w)) (m : Int) (n : Int) (i : Int) (j : Int) (c : Int)) R := by
  have hw' : ∀ c ∈ w, c < 100 := fun c hc => by have := hw c hc; omega
  intro d
  induction d with
  | zero =>
    intro c hc R _ hR
    refine (hR ?_).succ (fun k => ?_)
    · exact wC_rest w hw' h1 n i j (26 - c) c (by omega) (fun x hx hm' => by have := hwm x hm'; omega)
    · simp only [schismalaw34_balanced.l3]
      rw [if_neg (by omega), wrap_suc (by omega)]
  | succ d ih =>
    intro c hc R hR1 hR2
    have e97 : wrap64 (97 + (c : Int)) % 256 = 97 + (c : Int) := by unfold wrap64; omega
    have p1 := fun k (hk : 1001 ≤ k) => part_f w hw' h1 hl i n c (by omega) (by omega) k (by omega)
    have p2 := fun k (hk : 1001 ≤ k) => part_f w hw' h1 hl j n c (by omega) (by omega) k (by omega)
    have l1 := cntN_le (mkB (toU w)) i n c
    have l2 := cntN_le (mkB (toU w)) j n c
    have ew : wrap64 ((cntN (mkB (toU w)) i n c : Int) - (cntN (mkB (toU w)) j n c : Int)) = (cntN (mkB (toU w)) i n c : Int) - (cntN (mkB (toU w)) j n c : Int) := by unfold wrap64; omega
    cases hb : badB (mkB (toU w)) n i j c with
    | true =>
      have hR := hR1 _ (wC_bad (by omega) hb)
      subst hR
      refine (Ends.const _).from 1001 (fun k hk => ?_)
      simp only [schismalaw34_balanced.l3]
      unfold badB at hb
      rw [Bool.or_eq_true, decide_eq_true_eq, decide_eq_true_eq] at hb
      rw [if_pos (by omega), e97, p1 k hk, p2 k hk, Option.bind_some, Option.bind_some, ew, letter_f c (by omega)]
      by_cases g : (cntN (mkB (toU w)) i n c : Int) - (cntN (mkB (toU w)) j n c : Int) > 1
      · rw [if_pos g]; rfl
      · rw [if_neg g, if_pos (by omega)]; rfl
    | false =>
      have hnx := wC_next (s := mkB (toU w)) (n := n) (i := i) (j := j) (show c < 26 by omega) hb
      rw [hnx] at hR1 hR2
      refine (ih (c + 1) (by omega) R hR1 hR2).from 1001 (fun k hk => ?_)
      simp only [schismalaw34_balanced.l3]
      unfold badB at hb
      rw [Bool.or_eq_false_iff, decide_eq_false_iff_not, decide_eq_false_iff_not] at hb
      rw [if_pos (by omega), e97, p1 k hk, p2 k hk, Option.bind_some, Option.bind_some, ew, if_neg hb.1, if_neg hb.2, wrap_suc (by omega)]
theorem b2 {w : List Nat} (hw : ∀ c ∈ w, c < 26) (h1 : 1 ≤ w.length) (hl : w.length ≤ 1000) {m : Nat} (hm : m ≤ 26) (hwm : ∀ c ∈ w, c < m) {n i : Nat} (hn : n ≤ 1000) (hi : i < 1000) : ∀ (d j : Nat), j + d = w.length →
    ∀ R, (∀ q, wJ (mkB (toU w)) n i j = some q → R = resB q) → (wJ (mkB (toU w)) n i j = none → Ends (fun k => schismalaw34_balanced.l1 k (mkB (toU w)) (m : Int) (n : Int) ((i + 1 : Nat) : Int)) R) →
    Ends (fun k => schismalaw34_balanced.l2 k (mkB (toU w)) (m : Int) (n : Int) (i : Int) (j : Int)) R := by
  intro d
  have hsz : (mkB (toU w)).size = w.length := by rw [mkB_size, toU_length]
  induction d with
  | zero =>
    intro j hj R _ hR
    refine (hR (wJ_end (by rw [hsz]; omega))).succ (fun k => ?_)
    simp only [schismalaw34_balanced.l2]
    rw [hsz, if_neg (by omega), wrap_suc (by omega)]
  | succ d ih =>
    intro j hj R hR1 hR2
    have hnx := wJ_next (s := mkB (toU w)) (n := n) (i := i) (j := j) (by rw [hsz]; omega)
    rw [hnx] at hR1 hR2
    refine (b3 hw h1 hl hm hwm hn (by omega) (by omega) m 0 (by omega) R ?_ ?_).succ (fun k => ?_) (g := fun k => schismalaw34_balanced.l3 k (mkB (toU w)) (m : Int) (n : Int) (i : Int) (j : Int) ((0 : Nat) : Int))
    · intro q hq
      exact hR1 q (by rw [hq]; rfl)
    · intro hq
      rw [hq] at hR1 hR2
      exact ih (j + 1) (by omega) R hR1 hR2
    · simp only [schismalaw34_balanced.l2]
      rw [hsz, if_pos (by omega)]
      rfl
theorem b1 {w : List Nat} (hw : ∀ c ∈ w, c < 26) (h1 : 1 ≤ w.length) (hl : w.length ≤ 999) {m : Nat} (hm : m ≤ 26) (hwm : ∀ c ∈ w, c < m) {n : Nat} (hn : n < 1000) : ∀ (d i : Nat), i + d = w.length →
    ∀ R, (∀ q, wI (mkB (toU w)) n i = some q → R = resB q) → (wI (mkB (toU w)) n i = none → Ends (fun k => schismalaw34_balanced.l0 k (mkB (toU w)) (m : Int) ((n + 1 : Nat) : Int)) R) →
    Ends (fun k => schismalaw34_balanced.l1 k (mkB (toU w)) (m : Int) (n : Int) (i : Int)) R := by
  intro d
  have hsz : (mkB (toU w)).size = w.length := by rw [mkB_size, toU_length]
  induction d with
  | zero =>
    intro i hi R _ hR
    refine (hR (wI_end (by rw [hsz]; omega))).succ (fun k => ?_)
    simp only [schismalaw34_balanced.l1]
    rw [hsz, if_neg (by omega), wrap_suc (by omega)]
  | succ d ih =>
    intro i hi R hR1 hR2
    have hnx := wI_next (s := mkB (toU w)) (n := n) (i := i) (by rw [hsz]; omega)
    rw [hnx] at hR1 hR2
    refine (b2 hw h1 (by omega) hm hwm (by omega) (by omega) d (i + 1) (by omega) R ?_ ?_).succ (fun k => ?_) (g := fun k => schismalaw34_balanced.l2 k (mkB (toU w)) (m : Int) (n : Int) (i : Int) ((i + 1 : Nat) : Int))
    · intro q hq
      exact hR1 q (by rw [hq]; rfl)
    · intro hq
      rw [hq] at hR1 hR2
      exact ih (i + 1) (by omega) R hR1 hR2
    · simp only [schismalaw34_balanced.l1]
      rw [hsz, if_pos (by omega), wrap_suc (by omega)]
theorem b0 {w : List Nat} (hw : ∀ c ∈ w, c < 26) (h1 : 1 ≤ w.length) (hl : w.length ≤ 999) {m : Nat} (hm : m ≤ 26) (hwm : ∀ c ∈ w, c < m) : ∀ (d n : Nat), n + d = w.length →
    ∀ R, (∀ q, wN (mkB (toU w)) n = some q → R = resB q) → (wN (mkB (toU w)) n = none → R = (0, 0, 0, (⟨#[]⟩ : ByteArray), true)) →
    Ends (fun k => schismalaw34_balanced.l0 k (mkB (toU w)) (m : Int) (n : Int)) R := by
  intro d
  have hsz : (mkB (toU w)).size = w.length := by rw [mkB_size, toU_length]
  induction d with
  | zero =>
    intro n hi R _ hR
    have := hR (wN_end (by rw [hsz]; omega))
    subst this
    refine (Ends.const _).succ (fun k => ?_)
    simp only [schismalaw34_balanced.l0]
    rw [hsz, if_neg (by omega)]
  | succ d ih =>
    intro n hi R hR1 hR2
    have hnx := wN_next (s := mkB (toU w)) (n := n) (by rw [hsz]; omega)
    rw [hnx] at hR1 hR2
    refine (b1 hw h1 hl hm hwm (by omega) w.length 0 (by omega) R ?_ ?_).succ (fun k => ?_) (g := fun k => schismalaw34_balanced.l1 k (mkB (toU w)) (m : Int) (n : Int) ((0 : Nat) : Int))
    · intro q hq
      exact hR1 q (by rw [hq]; rfl)
    · intro hq
      rw [hq] at hR1 hR2
      exact ih (n + 1) (by omega) R hR1 hR2
    · simp only [schismalaw34_balanced.l0]
      rw [hsz, if_pos (by omega)]
      rfl
/-- what the reference answers -/
def refB (s : ByteArray) : Int × Int × Int × ByteArray × Bool := match wit s with
  | none => (0, 0, 0, (⟨#[]⟩ : ByteArray), true)
  | some q => resB q
theorem balanced_f {w : List Nat} (hw : ∀ c ∈ w, c < 26) (h1 : 1 ≤ w.length) (hl : w.length ≤ 60) : Ends (fun k => schismalaw34_balanced.f k (mkB (toU w))) (refB (mkB (toU w))) := by
  have hw' : ∀ c ∈ w, c < 100 := fun c hc => by have := hw c hc; omega
  obtain ⟨p, q, r⟩ := ctsW_facts _ w rfl
  have hlen := r 26 hw
  have h := b0 hw h1 (by omega) hlen p (w.length - 1) 1 (by omega) (refB (mkB (toU w))) (by
    intro q hq
    have hq' : wit (mkB (toU w)) = some q := hq
    unfold refB; rw [hq']) (by
    intro hq
    have hq' : wit (mkB (toU w)) = none := hq
    unfold refB; rw [hq'])
  obtain ⟨K, h⟩ := h
  refine ⟨K + 103 * 60 + 1, fun k hk => ?_⟩
  have hc := counts_f w hw' (by omega) k (by omega)
  show schismalaw34_balanced.f k (mkB (toU w)) = _
  unfold schismalaw34_balanced.f
  rw [hc, Option.bind_some, nums_length]
  exact h k (by omega)
end Go.Proofs.Ytpommkpgiogjgaa.X
