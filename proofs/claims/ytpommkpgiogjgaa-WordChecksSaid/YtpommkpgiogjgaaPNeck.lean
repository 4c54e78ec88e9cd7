/- The reference's necklaces, and the program's search for them, in plain Lean. -/
import Derived.Test.YtpommkpgiogjgaaPWords
import Derived.Test.YtpommkpgiogjgaaPFkm
import Derived.Test.YtpommkpgiogjgaaX4
import Derived.Test.YtpommkpgiogjgaaEExt
set_option linter.unusedVariables false
namespace Go.Proofs.Ytpommkpgiogjgaa.X
open Go.RowKit Go.Proofs.YtpommkpgiogjgaaW.PrintWords Go.Proofs.YtpommkpgiogjgaaW.PrintLast Go.Proofs.YtpommkpgiogjgaaW.PrintMore
open Go.Proofs.Ytpommkpgiogjgaa.Fkm
/-- a word's bytes -/
def toU (w : List Nat) : List UInt8 := w.map fun c => UInt8.ofNat (97 + c)
theorem toU_length (w : List Nat) : (toU w).length = w.length := by simp [toU]
theorem toU_append (w v : List Nat) : toU (w ++ v) = toU w ++ toU v := by simp [toU]
theorem toB_mkB (w : List Nat) : toB w = mkB (toU w) := by
  unfold toB strOfNums mkB toU
  rw [List.map_map]
  rfl
theorem toU_getD (w : List Nat) (i : Nat) (h : i < w.length) : (toU w).getD i 0 = UInt8.ofNat (97 + w.getD i 0) := by
  simp [toU, List.getD_eq_getElem?_getD, List.getElem?_eq_getElem h]
theorem ofNat_val {c : Nat} (h : c < 100) : (UInt8.ofNat (97 + c)).toNat = 97 + c := by
  rw [UInt8.toNat_ofNat']; omega
theorem ofNat_inj {c d : Nat} (hc : c < 100) (hd : d < 100) : UInt8.ofNat (97 + c) = UInt8.ofNat (97 + d) ↔ c = d := by
  constructor
  · intro h
    have := congrArg UInt8.toNat h
    rw [ofNat_val hc, ofNat_val hd] at this
    omega
  · rintro rfl; rfl
theorem small_at {w : List Nat} (hw : ∀ c ∈ w, c < 100) (i : Nat) : w.getD i 0 < 100 := by
  rw [List.getD_eq_getElem?_getD]
  cases h : w[i]? with
  | none => simp
  | some c => exact hw c (List.mem_of_getElem? h)
/-- its own least rotation: by bytes, by letters -/
theorem neck_bytes (w : List Nat) (hw : ∀ c ∈ w, c < 100) (h1 : 1 ≤ w.length) : rotL (toU w) (bestN (toU w) ((toU w).length - 1) 0 1) = toU w ↔ Neck w := by
  rw [best_neck (toU w) (by rw [toU_length]; exact h1)]
  have one : ∀ i, i < w.length → (Op.bytesLess (rotL (toU w) i) (toU w) = false ↔ ∀ j, j < w.length → (∀ t, t < j → at_ w t = at_ w ((i + t) % w.length)) → at_ w j ≤ at_ w ((i + j) % w.length)) := by
    intro i hi
    rw [bl_false_iff _ _ (by rw [rotL_length])]
    rw [rotL_length, toU_length]
    have get : ∀ t, t < w.length → (rotL (toU w) i).getD t 0 = UInt8.ofNat (97 + w.getD ((i + t) % w.length) 0) := by
      intro t ht
      have hm : (i + t) % w.length < w.length := Nat.mod_lt _ (by omega)
      rw [rotL_getD (toU w) i t (by rw [toU_length]; exact hi) (by rw [toU_length]; exact ht), toU_length, toU_getD w _ hm]
    constructor
    · intro H j hj hag
      have := H j hj (fun t ht => by
        rw [get t (by omega), toU_getD w t (by omega)]
        exact ((ofNat_inj (small_at hw _) (small_at hw _)).2 (hag t ht)).symm)
      rw [get j hj, toU_getD w j hj, ofNat_val (small_at hw _), ofNat_val (small_at hw _)] at this
      show w.getD j 0 ≤ w.getD ((i + j) % w.length) 0
      omega
    · intro H j hj hag
      have := H j hj (fun t ht => by
        have := hag t ht
        rw [get t (by omega), toU_getD w t (by omega)] at this
        exact ((ofNat_inj (small_at hw _) (small_at hw _)).1 this).symm)
      rw [get j hj, toU_getD w j hj, ofNat_val (small_at hw _), ofNat_val (small_at hw _)]
      have this' : w.getD j 0 ≤ w.getD ((i + j) % w.length) 0 := this
      omega
  rw [toU_length]
  constructor
  · intro H i j hi hj hag
    exact (one i hi).1 (H i hi) j hj hag
  · intro H i hi
    exact (one i hi).2 (fun j hj hag => H i j hi hj hag)
theorem letter_f (c : Nat) (hc : c < 100) : schismalaw34_letter.f (c : Int) = some (mkB [UInt8.ofNat (97 + c)]) := by
  unfold schismalaw34_letter.f strOfNums mkB
  have e : wrap64 (97 + (c : Int)) % 256 = ((97 + c : Nat) : Int) := by unfold wrap64; omega
  simp only [e, List.map_cons, List.map_nil, Int.toNat_natCast]
/-! ### the reference -/
def nums (R : List Nat) : List Int := R.map fun (x : Nat) => (x : Int)
theorem nums_length (R : List Nat) : (nums R).length = R.length := by simp [nums]
theorem nums_rd (R : List Nat) (i : Nat) : rd (nums R) (i : Int) = (R.getD i 0 : Int) := by
  unfold rd nums
  rw [Int.toNat_natCast, List.getD_eq_getElem?_getD, List.getD_eq_getElem?_getD, List.getElem?_map]
  cases R[i]? <;> rfl
theorem nums_set (R : List Nat) (i x : Nat) : (nums R).set i (x : Int) = nums (R.set i x) := by simp [nums, List.map_set]
theorem sum_set (R : List Nat) (i : Nat) (h : R.getD i 0 ≠ 0) : (R.set i (R.getD i 0 - 1)).sum + 1 = R.sum := by
  induction R generalizing i with
  | nil => simp at h
  | cons a R ih =>
    cases i with
    | zero => simp at h ⊢; omega
    | succ i =>
      have := ih i (by simpa using h)
      simp at this ⊢
      omega
theorem take_sum_le (R : List Nat) (i : Nat) : (R.take i).sum ≤ R.sum := by
  have := List.sum_append (l₁ := R.take i) (l₂ := R.drop i)
  rw [List.take_append_drop] at this
  omega
theorem take_sum_succ (R : List Nat) (i : Nat) : (R.take (i + 1)).sum = (R.take i).sum + R.getD i 0 := by
  induction R generalizing i with
  | nil => simp
  | cons a R ih =>
    cases i with
    | zero => simp
    | succ i =>
      have := ih i
      simp at this ⊢
      omega
theorem flat_len {α : Type} (f : Nat → List α) (n : Nat) (hf : ∀ i, (f i).length ≤ n) : ∀ l : List Nat, (l.flatMap f).length ≤ l.length * n := by
  intro l
  induction l with
  | nil => simp
  | cons a l ih =>
    rw [List.flatMap_cons, List.length_append, List.length_cons, Nat.succ_mul]
    have := hf a
    omega
theorem refN_len : ∀ (s : Nat) (w R : List Nat), (refN s w R).length ≤ R.length ^ s := by
  intro s
  induction s with
  | zero => intro w R; rw [refN]; split <;> simp
  | succ s ih =>
    intro w R
    rw [refN]
    refine Nat.le_trans (flat_len _ (R.length ^ s) (fun i => ?_) _) ?_
    · split
      · simp
      · have := ih (w ++ [i]) (R.set i (R.getD i 0 - 1))
        rwa [List.length_set] at this
    · rw [List.length_range, Nat.pow_succ, Nat.mul_comm]; exact Nat.le_refl _
/-- what the reference says of one letter -/
noncomputable def refS (s : Nat) (w R : List Nat) (i : Nat) : List (List Nat) := if R.getD i 0 = 0 then [] else refN s (w ++ [i]) (R.set i (R.getD i 0 - 1))
theorem refN_succ (s : Nat) (w R : List Nat) : refN (s + 1) w R = (List.range R.length).flatMap (refS s w R) := by rw [refN]; rfl
theorem neck_zero (w R : List Nat) (hw : ∀ c ∈ w, c < 100) (h1 : 1 ≤ w.length) (h2 : w.length ≤ 60) (hR : R.length ≤ 4) (hs : R.sum = 0) : ∀ (d i k : Nat), i + d = R.length → d + 62 ≤ k →
    schismalaw34_necklaces.l0 k (mkB (toU w)) (nums R) [] 0 (i : Int) = some ((refN 0 w R).map toB) := by
  have hz : ∀ i, R.getD i 0 = 0 := by
    intro i
    have a := take_sum_succ R i
    have b := take_sum_le R (i + 1)
    omega
  intro d
  induction d with
  | zero =>
    intro i k hi hk
    obtain ⟨k, rfl⟩ : ∃ m, k = m + 1 := ⟨k - 1, by omega⟩
    rw [schismalaw34_necklaces.l0, nums_length, if_neg (by omega), if_pos rfl, least_f (toU w) (by rw [toU_length]; omega) (by rw [toU_length]; omega) k (by rw [toU_length]; omega), Option.bind_some, mkB_toList, mkB_toList, refN]
    have e := neck_bytes w hw h1
    by_cases h : Neck w
    · rw [if_pos (e.2 h), if_pos h, if_pos (by decide)]
      simp [toB_mkB]
    · rw [if_neg (fun c => h (e.1 c)), if_neg h]
      rfl
  | succ d ih =>
    intro i k hi hk
    obtain ⟨k, rfl⟩ : ∃ m, k = m + 1 := ⟨k - 1, by omega⟩
    rw [schismalaw34_necklaces.l0, nums_length, if_pos (by omega), if_pos (by omega), nums_rd, hz i, if_pos (by rfl), show wrap64 (0 + ((0 : Nat) : Int)) = 0 by unfold wrap64; omega, wrap_suc (by omega)]
    exact ih (i + 1) k (by omega) (by omega)
/-- what the reference says, for s letters left -/
def RefSaid (s : Nat) : Prop := ∀ (w R : List Nat), (∀ c ∈ w, c < 100) → R.length ≤ 4 → R.sum = s → (s = 0 → w ≠ []) → w.length + s ≤ 60 → ∀ k, 70 + 8 * s ≤ k →
  schismalaw34_necklaces.f k (mkB (toU w)) (nums R) = some ((refN s w R).map toB)
theorem pow4 {n s : Nat} (hn : n ≤ 4) (hs : s ≤ 8) : n ^ s ≤ 65536 := by
  calc n ^ s ≤ 4 ^ s := Nat.pow_le_pow_left hn s
    _ ≤ 4 ^ 8 := Nat.pow_le_pow_right (by omega) hs
    _ = 65536 := by simp
theorem neck_loop {s : Nat} (hs : s + 1 ≤ 8) (H : RefSaid s) (w R : List Nat) (hw : ∀ c ∈ w, c < 100) (hR : R.length ≤ 4) (hsum : R.sum = s + 1) (h2 : w.length + (s + 1) ≤ 60) :
    ∀ (d i k : Nat) (A : List ByteArray), i + d = R.length → 70 + 8 * s + d < k → A.length ≤ i * 65536 →
    schismalaw34_necklaces.l0 k (mkB (toU w)) (nums R) A (((R.take i).sum : Nat) : Int) (i : Int) = some (A ++ ((List.range' i d).flatMap (refS s w R)).map toB) := by
  intro d
  induction d with
  | zero =>
    intro i k A hi hk hA
    obtain ⟨k, rfl⟩ : ∃ m, k = m + 1 := ⟨k - 1, by omega⟩
    have e : R.take i = R := List.take_of_length_le (by omega)
    rw [schismalaw34_necklaces.l0, nums_length, if_neg (by omega), e, hsum, if_neg (by omega)]
    simp
  | succ d ih =>
    intro i k A hi hk hA
    obtain ⟨k, rfl⟩ : ∃ m, k = m + 1 := ⟨k - 1, by omega⟩
    have hss := take_sum_succ R i
    have hle := take_sum_le R (i + 1)
    rw [schismalaw34_necklaces.l0, nums_length, if_pos (by omega), if_pos (by omega), nums_rd, ← Int.natCast_add, ← hss, wrap_nat (by omega), wrap_suc (by omega), List.range'_succ, List.flatMap_cons, List.map_append]
    by_cases hz : R.getD i 0 = 0
    · have hA' : A.length ≤ (i + 1) * 65536 := Nat.le_trans hA (Nat.mul_le_mul_right _ (Nat.le_succ i))
      have hi' : i + 1 + d = R.length := by omega
      have hk' : 70 + 8 * s + d < k := by omega
      have c0 : ((0 : Nat) : Int) = 0 := rfl
      rw [hz, if_pos c0, ih (i + 1) k A hi' hk' hA']
      have e : refS s w R i = [] := by unfold refS; rw [if_pos hz]
      rw [e]; rfl
    · rw [if_neg (by omega), Option.bind_some, List.nil_append, if_pos (by simp; omega), Option.bind_some, nums_length, if_pos (by omega), letter_f i (by omega), Option.bind_some, mkB_size, mkB_size, toU_length,
        if_pos (by simp; omega), mkB_append]
      have e1 : toU w ++ [UInt8.ofNat (97 + i)] = toU (w ++ [i]) := by rw [toU_append]; rfl
      have e2 : wrap64 ((R.getD i 0 : Int) - 1) = ((R.getD i 0 - 1 : Nat) : Int) := by unfold wrap64; omega
      have e3 : refS s w R i = refN s (w ++ [i]) (R.set i (R.getD i 0 - 1)) := by unfold refS; rw [if_neg hz]
      have hl := refN_len s (w ++ [i]) (R.set i (R.getD i 0 - 1))
      rw [List.length_set] at hl
      have hp := pow4 hR (show s ≤ 8 by omega)
      rw [e1, nums_rd, e2, Int.toNat_natCast, nums_set, H (w ++ [i]) (R.set i (R.getD i 0 - 1)) (by
        intro c hc
        rcases List.mem_append.1 hc with hc | hc
        · exact hw c hc
        · have : c = i := by simpa using hc
          omega) (by rw [List.length_set]; exact hR) (by have := sum_set R i hz; omega) (fun _ => by simp) (by simp; omega) k (by omega), Option.bind_some, if_pos (by rw [List.length_map]; omega),
        ih (i + 1) k _ (by omega) (by omega) (by rw [List.length_append, List.length_map]; omega), e3, List.append_assoc]
theorem ref_said : ∀ s, s ≤ 8 → RefSaid s := by
  intro s
  induction s with
  | zero =>
    intro _ w R hw hR hs h0 h2 k hk
    obtain ⟨k, rfl⟩ : ∃ m, k = m + 1 := ⟨k - 1, by omega⟩
    rw [schismalaw34_necklaces.f]
    exact neck_zero w R hw (List.length_pos_iff.2 (h0 rfl)) (by omega) hR hs R.length 0 k (by omega) (by omega)
  | succ s ih =>
    intro hs8 w R hw hR hs h0 h2 k hk
    obtain ⟨k, rfl⟩ : ∃ m, k = m + 1 := ⟨k - 1, by omega⟩
    rw [schismalaw34_necklaces.f]
    have := neck_loop hs8 (ih (by omega)) w R hw hR hs h2 R.length 0 k [] (by omega) (by omega) (by simp)
    rw [refN_succ, List.range_eq_range']
    simpa using this
/-! ### the program's search -/
theorem first_eq (w : List Nat) (p : Nat) : firstN w p = first w p := rfl
/-- what the program's search says of one letter -/
def progS (s : Nat) (w : List Nat) (p : Nat) (R : List Nat) (c : Nat) : List (List Nat) :=
  if c < first w p then [] else if R.getD c 0 = 0 then [] else progN s (w ++ [c]) (if w.length < p ∨ c ≠ first w p then w.length + 1 else p) (R.set c (R.getD c 0 - 1))
theorem progN_succ (s : Nat) (w : List Nat) (p : Nat) (R : List Nat) : progN (s + 1) w p R = (List.range R.length).flatMap (progS s w p R) := by rw [progN]; rfl
theorem range_split (n f : Nat) (h : f ≤ n) : List.range n = List.range' 0 f ++ List.range' f (n - f) := by
  rw [List.range_eq_range']
  have := List.range'_append (s := 0) (m := f) (n := n - f) (step := 1)
  simp only [Nat.one_mul, Nat.zero_add] at this
  rw [this, show f + (n - f) = n by omega]
theorem ext_prog : ∀ (s : Nat) (w : List Nat) (p : Nat) (R : List Nat) (O : List (List Nat)), O.length + (progN s w p R).length ≤ 5000 → extN s w p R (O, false) = (O ++ progN s w p R, false) := by
  intro s
  induction s with
  | zero =>
    intro w p R O h
    rw [extN, if_neg (by simp), progN]
    rw [progN] at h
    split
    · rename_i hd
      rw [if_pos hd] at h
      unfold addN
      rw [if_neg (by simp at h ⊢; omega)]
    · simp
  | succ s ih =>
    intro w p R O h
    rw [extN, if_neg (by simp)]
    show (List.range' (firstN w p) (R.length - firstN w p)).foldl (fun st c => if R.getD c 0 = 0 then st else extN s (w ++ [c]) (nextN w p c) (R.set c (R.getD c 0 - 1)) st) (O, false) = _
    rw [first_eq]
    have key : ∀ (cs : List Nat), (∀ c ∈ cs, first w p ≤ c) → ∀ O : List (List Nat), O.length + (cs.flatMap (progS s w p R)).length ≤ 5000 →
        cs.foldl (fun st c => if R.getD c 0 = 0 then st else extN s (w ++ [c]) (nextN w p c) (R.set c (R.getD c 0 - 1)) st) (O, false) = (O ++ cs.flatMap (progS s w p R), false) := by
      intro cs
      induction cs with
      | nil => intro _ O _; simp
      | cons c cs ihc =>
        intro hc O hO
        rw [List.flatMap_cons, List.length_append] at hO
        rw [List.foldl_cons, List.flatMap_cons]
        have hcf := hc c (by simp)
        by_cases hz : R.getD c 0 = 0
        · have e : progS s w p R c = [] := by unfold progS; rw [if_neg (by omega), if_pos hz]
          rw [if_pos hz, e, List.nil_append]
          rw [e] at hO
          exact ihc (fun c h => hc c (by simp [h])) O (by simp at hO ⊢; omega)
        · have e : progS s w p R c = progN s (w ++ [c]) (nextN w p c) (R.set c (R.getD c 0 - 1)) := by unfold progS; rw [if_neg (by omega), if_neg hz]; rfl
          rw [if_neg hz, e]
          rw [e] at hO
          rw [ih _ _ _ O (by omega), ihc (fun c h => hc c (by simp [h])) _ (by rw [List.length_append]; omega), List.append_assoc]
    have hall : progN (s + 1) w p R = (List.range' (first w p) (R.length - first w p)).flatMap (progS s w p R) := by
      rw [progN_succ]
      by_cases hf : first w p ≤ R.length
      · rw [range_split R.length (first w p) hf, List.flatMap_append]
        rw [flatMap_nil (List.range' 0 (first w p)) _ (fun x hx => by
          have : x < first w p := by simpa using (List.mem_range'_1.1 hx).2
          unfold progS; rw [if_pos this])]
        rfl
      · rw [show R.length - first w p = 0 by omega]
        rw [flatMap_nil (List.range R.length) _ (fun x hx => by
          have := List.mem_range.1 hx
          unfold progS; rw [if_pos (by omega)])]
        rfl
    rw [hall] at h ⊢
    exact key _ (fun c hc => (List.mem_range'_1.1 hc).1) O h
/-- a bound of the number of words -/
def mulN : Nat → List Nat → Nat
  | 0, _ => 1
  | s + 1, R => ((List.range R.length).map fun i => if R.getD i 0 = 0 then 0 else mulN s (R.set i (R.getD i 0 - 1))).sum
theorem flat_sum {α : Type} (f : Nat → List α) (g : Nat → Nat) (h : ∀ i, (f i).length ≤ g i) : ∀ l : List Nat, (l.flatMap f).length ≤ (l.map g).sum := by
  intro l
  induction l with
  | nil => simp
  | cons a l ih =>
    rw [List.flatMap_cons, List.length_append, List.map_cons, List.sum_cons]
    have := h a
    omega
theorem prog_len : ∀ (s : Nat) (w : List Nat) (p : Nat) (R : List Nat), (progN s w p R).length ≤ mulN s R := by
  intro s
  induction s with
  | zero => intro w p R; rw [progN, mulN]; split <;> simp
  | succ s ih =>
    intro w p R
    rw [progN_succ, mulN]
    refine flat_sum _ _ (fun i => ?_) _
    unfold progS
    split
    · simp
    · split
      · simp
      · exact ih _ _ _
end Go.Proofs.Ytpommkpgiogjgaa.X
