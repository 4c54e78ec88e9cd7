/- For any two Letters, Least, Same and Primitive answer as the definition says: the plain law. -/
import Derived.Test.YtpommkpgiogjgaaPKnown
import Derived.Test.YtpommkpgiogjgaaPMake
import Derived.Test.YtpommkpgiogjgaaESame
import Derived.Test.YtpommkpgiogjgaaPBal
import Derived.Test.YtpommkpgiogjgaaX2
import Derived.Test.YtpommkpgiogjgaaX9
set_option linter.unusedVariables false
namespace Go.Proofs.Ytpommkpgiogjgaa.X
open Go.RowKit Go.Proofs.YtpommkpgiogjgaaW.PrintWords Go.Proofs.YtpommkpgiogjgaaW.PrintLast Go.Proofs.YtpommkpgiogjgaaW.PrintMore
theorem word_rotate_f (l : List UInt8) (i : Nat) (h : i < l.length) (hl : l.length ≤ 100000) : word_rotate.f (mkB l) (i : Int) = some (mkB (rotL l i)) := rotate_f l i h hl
theorem rotate_full (l : List UInt8) (h : 1 ≤ l.length) (hl : l.length ≤ 100000) : schismalaw34_rotate.f (mkB l) (l.length : Int) = some (mkB l) := by
  have e : Int.tmod (wrap64 ((Int.tmod (l.length : Int) (l.length : Int)) + (l.length : Int))) (l.length : Int) = Int.tmod (wrap64 ((Int.tmod ((0 : Nat) : Int) (l.length : Int)) + (l.length : Int))) (l.length : Int) := by
    rw [Int.tmod_self, show Int.tmod ((0 : Nat) : Int) (l.length : Int) = 0 by simp]
  have := rotate_f l 0 (by omega) hl
  rw [rotL_zero] at this
  rw [← this]
  unfold schismalaw34_rotate.f
  rw [mkB_size, e]
/-! ### Least -/
theorem wleast_l0 (l : List UInt8) (hl : l.length ≤ 100000) : ∀ d k b i, i + d = l.length → b < l.length → d < k →
    word_Least.l0 k (mkB l) (mkB (rotL l b)) (b : Int) (l.length : Int) (i : Int) = some (mkB (rotL l (bestN l d b i)), (bestN l d b i : Int), 0) := by
  intro d
  induction d with
  | zero =>
    intro k b i hi hb hk
    obtain ⟨k, rfl⟩ : ∃ m, k = m + 1 := ⟨k - 1, by omega⟩
    rw [word_Least.l0, if_neg (by omega)]
    rfl
  | succ d ih =>
    intro k b i hi hb hk
    obtain ⟨k, rfl⟩ : ∃ m, k = m + 1 := ⟨k - 1, by omega⟩
    rw [word_Least.l0, if_pos (by omega), word_rotate_f l i (by omega) hl, Option.bind_some, mkB_toList, mkB_toList, wrap_suc (by omega), bestN]
    split
    · exact ih k i (i + 1) (by omega) (by omega) (by omega)
    · exact ih k b (i + 1) (by omega) hb (by omega)
theorem wleast_f {w : List Nat} (h : Few w) (k : Nat) (hk : 61 ≤ k) : word_Least.f k (mkB (toU w)) = some (mkB (rotL (toU w) (bestN (toU w) ((toU w).length - 1) 0 1)), (bestN (toU w) ((toU w).length - 1) 0 1 : Int), 0) := by
  have hp := h.pos
  have hl := h.len
  unfold word_Least.f
  rw [check_f w (fun c hc => by have := h.letters c hc; omega) h.pos (by omega) k hk, Option.bind_some, if_pos rfl]
  have e : bestN (toU w) (toU w).length 0 0 = bestN (toU w) ((toU w).length - 1) 0 1 := by
    obtain ⟨d, hd⟩ : ∃ d, (toU w).length = d + 1 := ⟨(toU w).length - 1, by rw [toU_length]; omega⟩
    rw [hd, bestN, bl_irrefl]
    simp
  have := wleast_l0 (toU w) (by rw [toU_length]; omega) (toU w).length k 0 0 (by omega) (by rw [toU_length]; omega) (by rw [toU_length]; omega)
  rw [rotL_zero, e] at this
  exact this
/-! ### Same -/
/-- the first place from i on where the rotation is m -/
def firstR (l m : List UInt8) : Nat → Nat → Option Nat
  | 0, _ => none
  | d + 1, i => if rotL l i = m then some i else firstR l m d (i + 1)
def sameR : Option Nat → Int × Bool
  | none => (0, false)
  | some i => ((i : Int), true)
theorem wsame_l0 (l m : List UInt8) (hl : l.length ≤ 100000) : ∀ d k i, i + d = l.length → d < k → word_Same.l0 k (mkB l) (mkB m) (i : Int) = some ((sameR (firstR l m d i)).1, (sameR (firstR l m d i)).2, 0) := by
  intro d
  induction d with
  | zero =>
    intro k i hi hk
    obtain ⟨k, rfl⟩ : ∃ m, k = m + 1 := ⟨k - 1, by omega⟩
    rw [word_Same.l0, mkB_size, if_neg (by omega)]
    rfl
  | succ d ih =>
    intro k i hi hk
    obtain ⟨k, rfl⟩ : ∃ m, k = m + 1 := ⟨k - 1, by omega⟩
    rw [word_Same.l0, mkB_size, if_pos (by omega), word_rotate_f l i (by omega) hl, Option.bind_some, mkB_toList, mkB_toList, firstR]
    by_cases e : rotL l i = m
    · rw [if_pos e, if_pos e]; rfl
    · rw [if_neg e, if_neg e, wrap_suc (by omega)]
      exact ih k (i + 1) (by omega) (by omega)
theorem wsame_f {w v : List Nat} (h : Few w) (g : Few v) (k : Nat) (hk : 61 ≤ k) : word_Same.f k (mkB (toU w)) (mkB (toU v)) = some ((sameR (firstR (toU w) (toU v) w.length 0)).1, (sameR (firstR (toU w) (toU v) w.length 0)).2, 0) := by
  have hl := h.len
  have gl := g.len
  unfold word_Same.f
  rw [check_f w (fun c hc => by have := h.letters c hc; omega) h.pos (by omega) k hk, Option.bind_some, if_pos rfl, check_f v (fun c hc => by have := g.letters c hc; omega) g.pos (by omega) k hk, Option.bind_some, if_pos rfl]
  exact wsame_l0 (toU w) (toU v) (by rw [toU_length]; omega) w.length k 0 (by rw [toU_length]; omega) (by omega)
/-! ### Primitive -/
/-- the rotation by i is the word itself, letter by letter -/
theorem rot_self (l : List UInt8) (i : Nat) (hi : i < l.length) : rotL l i = l ↔ ∀ j, j < l.length → l.getD ((i + j) % l.length) 0 = l.getD j 0 := by
  constructor
  · intro h j hj
    rw [← rotL_getD l i j hi hj, h]
  · intro h
    apply List.ext_getElem?
    intro j
    by_cases hj : j < l.length
    · have a := rotL_getD l i j hi hj
      rw [h j hj, List.getD_eq_getElem?_getD, List.getD_eq_getElem?_getD, List.getElem?_eq_getElem (by rw [rotL_length]; exact hj), List.getElem?_eq_getElem hj] at a
      rw [List.getElem?_eq_getElem (by rw [rotL_length]; exact hj), List.getElem?_eq_getElem hj]
      exact congrArg some a
    · rw [List.getElem?_eq_none (by rw [rotL_length]; omega), List.getElem?_eq_none (by omega)]
/-- the rotations that fix the word: with i also its multiples -/
theorem rot_mul (l : List UInt8) (i : Nat) (hi : i < l.length) (h : ∀ j, j < l.length → l.getD ((i + j) % l.length) 0 = l.getD j 0) (q : Nat) : ∀ j, j < l.length → l.getD ((q * i + j) % l.length) 0 = l.getD j 0 := by
  induction q with
  | zero => intro j hj; rw [Nat.zero_mul, Nat.zero_add, Nat.mod_eq_of_lt hj]
  | succ q ih =>
    intro j hj
    have hm : (q * i + j) % l.length < l.length := Nat.mod_lt _ (by omega)
    have a := h _ hm
    rw [ih j hj, Nat.add_mod_mod] at a
    rw [Nat.succ_mul, show q * i + i + j = i + (q * i + j) by omega]
    exact a
theorem rot_rem (l : List UInt8) (i : Nat) (h1 : 1 ≤ i) (hi : i < l.length) (h : rotL l i = l) : rotL l (l.length % i) = l := by
  have hr : l.length % i < i := Nat.mod_lt _ (by omega)
  have h' := (rot_self l i hi).1 h
  rw [rot_self l _ (by omega)]
  intro j hj
  have hm : (l.length % i + j) % l.length < l.length := Nat.mod_lt _ (by omega)
  have a := rot_mul l i hi h' (l.length / i) _ hm
  rw [Nat.add_mod_mod, ← Nat.add_assoc] at a
  have e : l.length / i * i + l.length % i = l.length := by
    have := Nat.div_add_mod l.length i
    rw [Nat.mul_comm]; exact this
  rw [e, Nat.add_mod_left, Nat.mod_eq_of_lt hj] at a
  exact a.symm
/-- the first place from i on where the rotation is the word itself -/
theorem first_div (l : List UInt8) (i : Nat) (h1 : 1 ≤ i) (hi : i < l.length) (h : rotL l i = l) (hmin : ∀ j, 1 ≤ j → j < i → rotL l j ≠ l) : l.length % i = 0 := by
  have hr : l.length % i < i := Nat.mod_lt _ (by omega)
  by_cases e : l.length % i = 0
  · exact e
  · exact absurd (rot_rem l i h1 hi h) (hmin _ (by omega) hr)
/-- the length of the root -/
def perG (l : List UInt8) : Nat → Nat → Nat
  | 0, i => i
  | d + 1, i => if rotL l i = l then i else perG l d (i + 1)
theorem perG_spec (l : List UInt8) : ∀ d i, i + d = l.length → i ≤ perG l d i ∧ perG l d i ≤ l.length ∧ (∀ j, i ≤ j → j < perG l d i → rotL l j ≠ l) ∧ (perG l d i < l.length → rotL l (perG l d i) = l) := by
  intro d
  induction d with
  | zero => intro i h; rw [perG]; exact ⟨Nat.le_refl _, by omega, fun j h1 h2 => by omega, fun h1 => by omega⟩
  | succ d ih =>
    intro i h
    rw [perG]
    by_cases e : rotL l i = l
    · rw [if_pos e]; exact ⟨Nat.le_refl _, by omega, fun j h1 h2 => by omega, fun _ => e⟩
    · rw [if_neg e]
      obtain ⟨a, b, c, f⟩ := ih (i + 1) (by omega)
      refine ⟨by omega, b, fun j h1 h2 => ?_, f⟩
      by_cases g : j = i
      · subst g; exact e
      · exact c j (by omega) h2
def perW (l : List UInt8) : Nat := perG l (l.length - 1) 1
structure IsPer (l : List UInt8) (p : Nat) : Prop where
  pos : 1 ≤ p
  le : p ≤ l.length
  min : ∀ j, 1 ≤ j → j < p → rotL l j ≠ l
  at_ : p < l.length → rotL l p = l
theorem isPer (l : List UInt8) (h : 1 ≤ l.length) : IsPer l (perW l) := by
  obtain ⟨a, b, c, f⟩ := perG_spec l (l.length - 1) 1 (by omega)
  exact ⟨a, b, c, f⟩
theorem wprim_l0 (l : List UInt8) (p : Nat) (hp : IsPer l p) (hl : l.length ≤ 100000) : ∀ d k i, i + d = p → 1 ≤ i → d < k →
    word_Primitive.l0 k (mkB l) (i : Int) = some (mkB (l.take p), ((l.length / p : Nat) : Int), 0) := by
  have hpos := hp.pos
  have hle := hp.le
  intro d
  induction d with
  | zero =>
    intro k i hi h1 hk
    obtain ⟨k, rfl⟩ : ∃ m, k = m + 1 := ⟨k - 1, by omega⟩
    obtain rfl : i = p := by omega
    rw [word_Primitive.l0, mkB_size]
    by_cases e : i < l.length
    · have hd := first_div l i h1 e (hp.at_ e) hp.min
      have ha := hp.at_ e
      have hq : wrap64 ((l.length : Int) / (i : Int)) = ((l.length / i : Nat) : Int) := by
        rw [← Int.natCast_ediv, wrap_nat]
        exact Nat.le_trans (Nat.div_le_self _ _) (by omega)
      rw [if_pos (by omega), if_neg (by omega), if_pos (by rw [← Int.natCast_emod, hd]; rfl), word_rotate_f l i e hl, Option.bind_some, mkB_toList, mkB_toList, ha, if_pos rfl, if_pos (by omega), if_pos (by omega), hq, Int.toNat_natCast, mkB_extract]
      simp
    · have e' : i = l.length := by omega
      subst e'
      rw [if_neg (by omega), List.take_length, Nat.div_self (by omega)]
      rfl
  | succ d ih =>
    intro k i hi h1 hk
    obtain ⟨k, rfl⟩ : ∃ m, k = m + 1 := ⟨k - 1, by omega⟩
    have hm := hp.min i h1 (by omega)
    have hr := ih k (i + 1) (by omega) (by omega) (by omega)
    rw [word_Primitive.l0, mkB_size, if_pos (by omega), if_neg (by omega), word_rotate_f l i (by omega) hl, Option.bind_some, mkB_toList, mkB_toList, if_neg hm, wrap_suc (by omega), hr]
    split <;> rfl
theorem wprim_f {w : List Nat} (h : Few w) (k : Nat) (hk : 61 ≤ k) : word_Primitive.f k (mkB (toU w)) = some (mkB ((toU w).take (perW (toU w))), ((w.length / perW (toU w) : Nat) : Int), 0) := by
  have hp := h.pos
  have hl := h.len
  have hq := isPer (toU w) (by rw [toU_length]; exact hp)
  have hle := hq.le
  have hps := hq.pos
  rw [toU_length] at hle
  unfold word_Primitive.f
  rw [check_f w (fun c hc => by have := h.letters c hc; omega) h.pos (by omega) k hk, Option.bind_some, if_pos rfl]
  have := wprim_l0 (toU w) (perW (toU w)) hq (by rw [toU_length]; omega) (perW (toU w) - 1) k 1 (by omega) (by omega) (by omega)
  rw [toU_length] at this
  exact this
/-! ### the law's loops -/
theorem law_l1 (l : List UInt8) (p : Nat) (hp : IsPer l p) (hl : l.length ≤ 100000) (x10 : Int) (x11 : Bool) : ∀ d k i, i + d = p → 1 ≤ i → d < k →
    schismalaw34_WordRotations.l1 k (mkB l) x10 x11 (mkB (l.take p)) ((l.length / p : Nat) : Int) x10 x11 (i : Int) = some true := by
  have hpos := hp.pos
  have hle := hp.le
  intro d
  induction d with
  | zero =>
    intro k i hi h1 hk
    obtain ⟨k, rfl⟩ : ∃ m, k = m + 1 := ⟨k - 1, by omega⟩
    obtain rfl : i = p := by omega
    have hq : wrap64 ((l.length : Int) / (i : Int)) = ((l.length / i : Nat) : Int) := by
      rw [← Int.natCast_ediv, wrap_nat]
      exact Nat.le_trans (Nat.div_le_self _ _) (by omega)
    have hrot : schismalaw34_rotate.f (mkB l) (i : Int) = some (mkB l) := by
      by_cases e : i < l.length
      · rw [rotate_f l i e hl, hp.at_ e]
      · have e' : i = l.length := by omega
        rw [e', rotate_full l (by omega) hl]
    rw [schismalaw34_WordRotations.l1, hrot, Option.bind_some, if_pos rfl, if_pos rfl, if_pos (by simp), if_pos (by omega), mkB_size, if_pos (by omega), Int.toNat_natCast, mkB_extract, mkB_toList, mkB_toList, if_pos (by simp), if_neg (by omega), hq]
    simp
  | succ d ih =>
    intro k i hi h1 hk
    obtain ⟨k, rfl⟩ : ∃ m, k = m + 1 := ⟨k - 1, by omega⟩
    have hm := hp.min i h1 (by omega)
    rw [schismalaw34_WordRotations.l1, rotate_f l i (by omega) hl, Option.bind_some, mkB_toList, mkB_toList, if_neg hm, wrap_suc (by omega)]
    exact ih k (i + 1) (by omega) (by omega) (by omega)
theorem law_l0 (l m : List UInt8) (hl : l.length ≤ 100000) (x10 : Int) (x11 : Bool) (x13 : ByteArray) (x14 : Int) (R : Bool)
    (H : Ends (fun k => schismalaw34_WordRotations.l1 k (mkB l) x10 x11 x13 x14 (sameR (firstR l m l.length 0)).1 (sameR (firstR l m l.length 0)).2 1) R) : ∀ i, i ≤ l.length →
    Ends (fun k => schismalaw34_WordRotations.l0 k (mkB l) (mkB m) x10 x11 x13 x14 (sameR (firstR l m (l.length - i) i)).1 (sameR (firstR l m (l.length - i) i)).2 ((i : Int) - 1)) R := by
  intro i
  induction i with
  | zero =>
    intro _
    refine H.succ (fun k => ?_)
    simp only [schismalaw34_WordRotations.l0]
    rw [if_neg (by omega)]
    rfl
  | succ i ih =>
    intro hi
    refine (ih (by omega)).succ (fun k => ?_)
    simp only [schismalaw34_WordRotations.l0]
    rw [if_pos (by omega), show ((i + 1 : Nat) : Int) - 1 = (i : Int) by omega, rotate_f l i (by omega) hl, Option.bind_some, mkB_toList, mkB_toList,
      show wrap64 ((i : Int) - 1) = (i : Int) - 1 by unfold wrap64; omega, show l.length - i = (l.length - (i + 1)) + 1 by omega, firstR]
    by_cases e : rotL l i = m
    · rw [if_pos e, if_pos e]; rfl
    · rw [if_neg e, if_neg e]
theorem pure_WordRotations (L : List Int) (a : Int) (M : List Int) (b : Int) (hL : ∀ x ∈ L, (Lit.int .u8 x).wf = true) (ha : (Lit.int .u8 a).wf = true) (hM : ∀ x ∈ M, (Lit.int .u8 x).wf = true) (hb : (Lit.int .u8 b).wf = true) :
    ∃ k, schismalaw34_WordRotations.f k L a M b = some true := by
  obtain ⟨R, m, rfl, rfl, hR, hm⟩ := open_letters L a hL ha
  obtain ⟨S, n, rfl, rfl, hS, hn⟩ := open_letters M b hM hb
  have hf := make_few R m
  have hmk := make_f R m hR hm
  have gf := make_few S n
  have gmk := make_f S n hS hn
  generalize makeW R m = w at hf hmk
  generalize makeW S n = v at gf gmk
  have hp := hf.pos
  have hl := hf.len
  have hq := isPer (toU w) (by rw [toU_length]; exact hp)
  have hql := hq.le
  have hqp := hq.pos
  rw [toU_length] at hql
  have h1 : Ends (fun k => schismalaw34_WordRotations.l1 k (mkB (toU w)) (sameR (firstR (toU w) (toU v) (toU w).length 0)).1 (sameR (firstR (toU w) (toU v) (toU w).length 0)).2 (mkB ((toU w).take (perW (toU w)))) (((toU w).length / perW (toU w) : Nat) : Int) (sameR (firstR (toU w) (toU v) (toU w).length 0)).1 (sameR (firstR (toU w) (toU v) (toU w).length 0)).2 1) true :=
    ⟨100, fun k hk => law_l1 (toU w) (perW (toU w)) hq (by rw [toU_length]; omega) _ _ (perW (toU w) - 1) k 1 (by omega) (by omega) (by omega)⟩
  have h0 := law_l0 (toU w) (toU v) (by rw [toU_length]; omega) _ _ _ _ _ h1 (toU w).length (Nat.le_refl _)
  rw [Nat.sub_self] at h0
  obtain ⟨K, h0⟩ := h0
  refine ⟨K + 200, ?_⟩
  have h0' := h0 (K + 198) (by omega)
  simp only [firstR, sameR] at h0'
  unfold schismalaw34_WordRotations.f
  rw [known_all _ (by omega), Option.bind_some, if_pos rfl, hmk _ (by omega), Option.bind_some, gmk _ (by omega), Option.bind_some, wleast_f hf _ (by omega), Option.bind_some, wsame_f hf gf _ (by omega), Option.bind_some, wprim_f hf _ (by omega), Option.bind_some]
  simp only
  rw [if_pos trivial, if_pos trivial, show K + 200 = (K + 198) + 1 + 1 from rfl, schismalaw34_WordRotations.j0, if_neg (by simp), least_f (toU w) (by rw [toU_length]; exact hp) (by rw [toU_length]; omega) _ (by rw [toU_length]; omega), Option.bind_some]
  simp only
  rw [if_pos trivial, schismalaw34_WordRotations.j1, if_neg (by simp), mkB_size, show wrap64 (((toU w).length : Int) - 1) = ((toU w).length : Int) - 1 by rw [toU_length]; unfold wrap64; omega]
  rw [toU_length] at h0' ⊢
  exact h0'
/-- the law's walk, over any two Letters -/
theorem walk_WordRotations (a0 : Option Addr) (len0 cap0 : Nat) (z0 : List Int) (m0 : Int) (a1 : Option Addr) (len1 cap1 : Nat) (z1 : List Int) (m1 : Int) (w : World) (w0 : ((a0 = none ∧ len0 = 0 ∧ cap0 = 0 ∧ z0 = []) ∨ ∃ x, a0 = some x ∧ len0 ≤ cap0 ∧ cap0 ≤ maxLen ∧ z0.length = cap0 ∧ (∀ i, i < z0.length → w.cell? (x.add i) = some (.int .u8 (z0.getD i 0))) ∧ ∀ n ∈ z0, (Lit.int .u8 n).wf = true)) (wm0 : (Lit.int .u8 m0).wf = true) (w1 : ((a1 = none ∧ len1 = 0 ∧ cap1 = 0 ∧ z1 = []) ∨ ∃ x, a1 = some x ∧ len1 ≤ cap1 ∧ cap1 ≤ maxLen ∧ z1.length = cap1 ∧ (∀ i, i < z1.length → w.cell? (x.add i) = some (.int .u8 (z1.getD i 0))) ∧ ∀ n ∈ z1, (Lit.int .u8 n).wf = true)) (wm1 : (Lit.int .u8 m1).wf = true) :
    Calls Try.prog 7 #[.agg #[.slice a0 len0 cap0, .int .u8 m0], .agg #[.slice a1 len1 cap1, .int .u8 m1]] w fun e w' => e = .returned (.bool true) ∧ Below w.heap.size w w' := by
  obtain ⟨l0, rfl, hr0, hm0, hw0, hc0⟩ := ReadsInt.ofRowC w0
  obtain ⟨l1, rfl, hr1, hm1, hw1, hc1⟩ := ReadsInt.ofRowC w1
  obtain ⟨k, h⟩ := pure_WordRotations l0 m0 l1 m1 hw0 wm0 hw1 wm1
  refine (schismalaw34_WordRotations.calls k _ _ l0 m0 _ _ l1 m1 true w (Kd.C_of_reads (d := (0 : Int)) (h1 := fun _ => rfl) hr0) hc0 (Kd.C_of_reads (d := (0 : Int)) (h1 := fun _ => rfl) hr1) hc1 h).mono ?_
  rintro e w' ⟨rfl, hd⟩
  exact ⟨rfl, hd⟩
end Go.Proofs.Ytpommkpgiogjgaa.X
