/- The words of the Letters laws: what Make, Check, counts and part answer at them. -/
import Derived.Test.YtpommkpgiogjgaaPNeck
import Derived.Test.YtpommkpgiogjgaaETally
import Derived.Test.YtpommkpgiogjgaaX2
import Derived.Test.YtpommkpgiogjgaaX3
set_option linter.unusedVariables false
namespace Go.Proofs.Ytpommkpgiogjgaa.X
open Go.RowKit Go.Proofs.YtpommkpgiogjgaaW.PrintWords Go.Proofs.YtpommkpgiogjgaaW.PrintLast Go.Proofs.YtpommkpgiogjgaaW.PrintMore
/-- a word with few letters, of a few letters' length -/
structure Few (w : List Nat) : Prop where
  letters : ∀ c ∈ w, c < 4
  pos : 1 ≤ w.length
  len : w.length ≤ 14
theorem Few.lt100 {w : List Nat} (h : Few w) : ∀ c ∈ w, c < 100 := fun c hc => by have := h.letters c hc; omega
theorem Few.get {w : List Nat} (h : Few w) (i : Nat) : w.getD i 0 < 4 := by
  rw [List.getD_eq_getElem?_getD]
  cases e : w[i]? with
  | none => simp
  | some c => exact h.letters c (List.mem_of_getElem? e)
def makeL (R : List Nat) (m i : Nat) : List Nat := (R.take i).map fun x => x % (1 + m % 4)
def makeW (R : List Nat) (m : Nat) : List Nat := if makeL R m 14 = [] then [0] else makeL R m 14
theorem make_few (R : List Nat) (m : Nat) : Few (makeW R m) := by
  unfold makeW
  split
  · exact ⟨by simp, by simp, by simp⟩
  · rename_i h
    refine ⟨?_, List.length_pos_iff.2 h, by simp [makeL]; omega⟩
    intro c hc
    unfold makeL at hc
    rw [List.mem_map] at hc
    obtain ⟨x, _, rfl⟩ := hc
    have := Nat.mod_lt x (show 0 < 1 + m % 4 by omega)
    omega
theorem make_end (R : List Nat) (m : Nat) (w : List Nat) (h : w = makeL R m 14) : (if (mkB (toU w)).toList = ([] : List UInt8) then (some (⟨#[97]⟩ : ByteArray)) else (some (mkB (toU w)))) = some (mkB (toU (makeW R m))) := by
  rw [mkB_toList]
  subst h
  unfold makeW
  by_cases e : makeL R m 14 = []
  · rw [if_pos e, if_pos (by rw [e]; rfl)]; rfl
  · rw [if_neg e, if_neg (fun c => e (by unfold toU at c; exact List.map_eq_nil_iff.1 c))]
theorem make_l0 (R : List Nat) (m : Nat) (hR : ∀ x ∈ R, x ≤ 255) (hm : m ≤ 255) : ∀ (d i k : Nat), i + d = 14 → i ≤ R.length → d < k →
    schismalaw34_Make.l0 k (mkB (toU (makeL R m i))) (i : Int) (nums R) (m : Int) = some (mkB (toU (makeW R m))) := by
  intro d
  induction d with
  | zero =>
    intro i k hi hr hk
    obtain ⟨k, rfl⟩ : ∃ m, k = m + 1 := ⟨k - 1, by omega⟩
    obtain rfl : i = 14 := by omega
    rw [schismalaw34_Make.l0, nums_length]
    rw [make_end R m _ rfl]
    rw [if_neg (show ¬ ((14 : Nat) : Int) < 14 by omega)]
    split <;> rfl
  | succ d ih =>
    intro i k hi hr hk
    obtain ⟨k, rfl⟩ : ∃ m, k = m + 1 := ⟨k - 1, by omega⟩
    rw [schismalaw34_Make.l0, nums_length]
    by_cases he : i = R.length
    · rw [if_neg (by omega)]
      refine make_end R m _ ?_
      unfold makeL
      rw [List.take_of_length_le (by omega), List.take_of_length_le (by omega)]
    · have hi2 : i < R.length := by omega
      have hq : wrap64 (1 + wrap64 (Int.tmod (m : Int) 4)) = ((1 + m % 4 : Nat) : Int) := by
        rw [show (4 : Int) = ((4 : Nat) : Int) from rfl, ← Int.ofNat_tmod]
        unfold wrap64; omega
      have hx : R.getD i 0 ≤ 255 := by
        rw [List.getD_eq_getElem?_getD, List.getElem?_eq_getElem hi2]
        exact hR _ (List.getElem_mem _)
      have hlt := Nat.mod_lt (R.getD i 0) (show 0 < 1 + m % 4 by omega)
      have hc : makeL R m (i + 1) = makeL R m i ++ [R.getD i 0 % (1 + m % 4)] := by
        unfold makeL
        rw [List.take_succ_eq_append_getElem hi2, List.map_append, List.getD_eq_getElem?_getD, List.getElem?_eq_getElem hi2]
        rfl
      have hml : (makeL R m i).length ≤ 14 := by simp [makeL]; omega
      rw [if_pos (by omega), if_pos (by omega), if_pos (by omega), hq, if_neg (by omega), nums_rd, wrap_nat (by omega), ← Int.ofNat_tmod, letter_f _ (by omega), Option.bind_some, if_pos (by rw [mkB_size, mkB_size, toU_length]; simp; omega), mkB_append, wrap_suc (by omega)]
      have e : toU (makeL R m i) ++ [UInt8.ofNat (97 + R.getD i 0 % (1 + m % 4))] = toU (makeL R m (i + 1)) := by rw [hc, toU_append]; rfl
      rw [e]
      exact ih (i + 1) k (by omega) (by omega) (by omega)
theorem make_f (R : List Nat) (m : Nat) (hR : ∀ x ∈ R, x ≤ 255) (hm : m ≤ 255) (k : Nat) (hk : 15 ≤ k) : schismalaw34_Make.f k (nums R) (m : Int) = some (mkB (toU (makeW R m))) :=
  make_l0 R m hR hm 14 0 k rfl (by omega) (by omega)
/-- numbers of one byte -/
theorem open_letters (L : List Int) (a : Int) (hL : ∀ x ∈ L, (Lit.int .u8 x).wf = true) (ha : (Lit.int .u8 a).wf = true) : ∃ (R : List Nat) (m : Nat), L = nums R ∧ a = (m : Int) ∧ (∀ x ∈ R, x ≤ 255) ∧ m ≤ 255 := by
  have wf : ∀ x : Int, (Lit.int .u8 x).wf = true → 0 ≤ x ∧ x ≤ 255 := by
    intro x hx
    simpa [Lit.wf, IntKind.min, IntKind.max, IntKind.signed, IntKind.bits] using hx
  have ha' := wf a ha
  refine ⟨L.map Int.toNat, a.toNat, ?_, by omega, ?_, by omega⟩
  · unfold nums
    rw [List.map_map]
    conv => lhs; rw [← List.map_id L]
    exact List.map_congr_left (fun x hx => by have := wf x (hL x hx); simp; omega)
  · intro x hx
    rw [List.mem_map] at hx
    obtain ⟨y, hy, rfl⟩ := hx
    have := wf y (hL y hy)
    omega
/-! ### bytes -/
theorem toU_bt (w : List Nat) (hw : ∀ c ∈ w, c < 100) (i : Nat) (h : i < w.length) : bt (mkB (toU w)) (i : Int) = 97 + (w.getD i 0 : Int) := by
  have h' : ((i : Int)).toNat < (mkB (toU w)).size := by rw [Int.toNat_natCast, mkB_size, toU_length]; exact h
  unfold bt
  rw [dif_pos h']
  have e : (mkB (toU w))[((i : Int)).toNat] = (toU w).getD i 0 := by
    rw [List.getD_eq_getElem?_getD, List.getElem?_eq_getElem (by rw [toU_length]; exact h)]
    rfl
  rw [e, toU_getD w i h, ofNat_val (small_at hw i)]
  omega
theorem toU_small (w : List Nat) (hw : ∀ c ∈ w, c < 26) : Small (mkB (toU w)) := by
  intro i h
  have hl : i < w.length := by rw [mkB_size, toU_length] at h; exact h
  have e : (mkB (toU w))[i] = (toU w).getD i 0 := by
    rw [List.getD_eq_getElem?_getD, List.getElem?_eq_getElem (by rw [toU_length]; exact hl)]
    rfl
  have h26 : w.getD i 0 < 26 := by
    rw [List.getD_eq_getElem?_getD, List.getElem?_eq_getElem hl]
    exact hw _ (List.getElem_mem _)
  rw [e, toU_getD w i hl, ofNat_val (by omega)]
  omega
theorem toU_lt (w : List Nat) (hw : ∀ c ∈ w, c < 100) (h1 : 1 ≤ w.length) (i : Nat) : lt_ (mkB (toU w)) i = w.getD (i % w.length) 0 := by
  unfold lt_
  rw [mkB_size, toU_length]
  show ((toU w).getD (i % w.length) 0).toNat - 97 = _
  rw [toU_getD w _ (Nat.mod_lt _ (by omega)), ofNat_val (small_at hw _)]
  omega
/-! ### Check -/
theorem check_l0 (w : List Nat) (hw : ∀ c ∈ w, c < 26) (hl : w.length ≤ 1000) : ∀ d k i, i + d = w.length → d < k → word_Check.l0 k (mkB (toU w)) (w.length : Int) (i : Int) = some 0 := by
  have hw' : ∀ c ∈ w, c < 100 := fun c hc => by have := hw c hc; omega
  intro d
  induction d with
  | zero =>
    intro k i hi hk
    obtain ⟨k, rfl⟩ : ∃ m, k = m + 1 := ⟨k - 1, by omega⟩
    rw [word_Check.l0, if_neg (by omega)]
  | succ d ih =>
    intro k i hi hk
    obtain ⟨k, rfl⟩ : ∃ m, k = m + 1 := ⟨k - 1, by omega⟩
    have h26 : w.getD i 0 < 26 := by
      rw [List.getD_eq_getElem?_getD, List.getElem?_eq_getElem (show i < w.length by omega)]
      exact hw _ (List.getElem_mem _)
    rw [word_Check.l0, if_pos (by omega), if_pos (by omega), if_pos (by rw [mkB_size, toU_length]; omega), toU_bt w hw' i (by omega), if_neg (by omega), if_neg (by omega), wrap_suc (by omega)]
    exact ih k (i + 1) (by omega) (by omega)
theorem check_f (w : List Nat) (hw : ∀ c ∈ w, c < 26) (h1 : 1 ≤ w.length) (hl : w.length ≤ 60) (k : Nat) (hk : 61 ≤ k) : word_Check.f k (mkB (toU w)) = some 0 := by
  unfold word_Check.f
  rw [mkB_toList, if_neg (fun c => by unfold toU at c; have := List.map_eq_nil_iff.1 c; subst this; simp at h1), mkB_size, toU_length, if_neg (by omega)]
  exact check_l0 w hw (by omega) w.length k 0 (by omega) (by omega)
/-! ### counts -/
/-- one letter more -/
def cpad (L : List Nat) (c : Nat) : List Nat := L ++ List.replicate (c + 1 - L.length) 0
def cstep (L : List Nat) (c : Nat) : List Nat := (cpad L c).set c ((cpad L c).getD c 0 + 1)
def ctsW (w : List Nat) : List Nat := w.foldl cstep []
theorem cpad_length (L : List Nat) (c : Nat) : c < (cpad L c).length ∧ (cpad L c).length ≤ max L.length (c + 1) ∧ L.length ≤ (cpad L c).length := by
  simp [cpad]; omega
theorem cpad_getD (L : List Nat) (c d : Nat) : (cpad L c).getD d 0 = L.getD d 0 := by
  unfold cpad
  rw [List.getD_eq_getElem?_getD, List.getD_eq_getElem?_getD, List.getElem?_append]
  split
  · rfl
  · rename_i h
    rw [List.getElem?_eq_none (l := L) (by omega), List.getElem?_replicate]
    split <;> rfl
theorem cstep_length (L : List Nat) (c : Nat) : c < (cstep L c).length ∧ (cstep L c).length ≤ max L.length (c + 1) ∧ L.length ≤ (cstep L c).length := by
  unfold cstep
  rw [List.length_set]
  exact cpad_length L c
theorem cstep_getD (L : List Nat) (c d : Nat) : (cstep L c).getD d 0 = L.getD d 0 + (if d = c then 1 else 0) := by
  have h := cpad_length L c
  unfold cstep
  rw [List.getD_eq_getElem?_getD, List.getElem?_set]
  by_cases e : c = d
  · subst e
    rw [if_pos rfl, if_pos h.1, if_pos rfl, cpad_getD]
    rfl
  · rw [if_neg e, if_neg (fun x => e x.symm), ← List.getD_eq_getElem?_getD, cpad_getD]
    rfl
theorem ctsW_snoc (w : List Nat) (c : Nat) : ctsW (w ++ [c]) = cstep (ctsW w) c := by simp [ctsW]
theorem ctsW_facts : ∀ (n : Nat) (w : List Nat), w.length = n → (∀ c ∈ w, c < (ctsW w).length) ∧ (∀ d, (ctsW w).getD d 0 = w.count d) ∧ (∀ b, (∀ c ∈ w, c < b) → (ctsW w).length ≤ b) := by
  intro n
  induction n with
  | zero =>
    intro w h
    have : w = [] := List.length_eq_zero_iff.1 h
    subst this
    exact ⟨by simp, by simp [ctsW], by simp [ctsW]⟩
  | succ n ih =>
    intro w h
    have hne : w ≠ [] := by intro e; subst e; simp at h
    obtain ⟨v, c, rfl⟩ : ∃ v c, w = v ++ [c] := ⟨w.dropLast, w.getLast hne, (List.dropLast_concat_getLast hne).symm⟩
    obtain ⟨p, q, r⟩ := ih v (by simpa using h)
    have hl := cstep_length (ctsW v) c
    rw [ctsW_snoc]
    refine ⟨?_, ?_, ?_⟩
    · intro d hd
      rcases List.mem_append.1 hd with h | h
      · have := p d h; omega
      · have : d = c := by simpa using h
        omega
    · intro d
      rw [cstep_getD, q d, List.count_append, List.count_cons, List.count_nil, Nat.zero_add]
      by_cases e : d = c
      · subst e; simp
      · rw [if_neg e, if_neg (by simp; exact fun x => e x.symm)]
    · intro b hb
      have a := r b (fun x hx => hb x (by simp [hx]))
      have b' := hb c (by simp)
      omega
theorem nums_append (R S : List Nat) : nums R ++ nums S = nums (R ++ S) := by simp [nums]
theorem counts_l1 (w : List Nat) (hw : ∀ c ∈ w, c < 100) (i : Nat) (hi : i < w.length) (hl : w.length ≤ 1000) : ∀ (d k : Nat) (L : List Nat), w.getD i 0 + 1 - L.length = d → L.length ≤ 1000 → (∀ x, L.getD x 0 ≤ 1000) → ∀ r,
    schismalaw34_counts.l0 k (mkB (toU w)) (nums (cstep L (w.getD i 0))) ((i + 1 : Nat) : Int) = some r →
    schismalaw34_counts.l1 (k + 1 + d) (mkB (toU w)) (nums L) (i : Int) = some r := by
  have hc := small_at hw i
  have hb := toU_bt w hw i hi
  have hm : (97 + (w.getD i 0 : Int) - 97) % 256 = (w.getD i 0 : Int) := by omega
  intro d
  induction d with
  | zero =>
    intro k L hd hL hx r hr
    have e : cpad L (w.getD i 0) = L := by unfold cpad; rw [hd]; simp
    have hs : cstep L (w.getD i 0) = L.set (w.getD i 0) (L.getD (w.getD i 0) 0 + 1) := by unfold cstep; rw [e]
    have hx' := hx (w.getD i 0)
    rw [hs] at hr
    rw [show k + 1 + 0 = k + 1 from rfl, schismalaw34_counts.l1, mkB_size, toU_length, if_pos (by omega), if_pos (by omega), hb, hm, nums_length, if_neg (by omega), if_pos (by omega), if_pos (by omega), Int.toNat_natCast, nums_rd, wrap_suc (by omega), nums_set, wrap_suc (by omega)]
    exact hr
  | succ d ih =>
    intro k L hd hL hx r hr
    have e : cpad (L ++ [0]) (w.getD i 0) = cpad L (w.getD i 0) := by
      unfold cpad
      rw [hd, List.length_append, List.append_assoc]
      congr 1
      rw [show w.getD i 0 + 1 - (L.length + [0].length) = d by rw [List.length_singleton]; omega, List.replicate_succ]
      rfl
    have hs : cstep (L ++ [0]) (w.getD i 0) = cstep L (w.getD i 0) := by unfold cstep; rw [e]
    have h0 : nums L ++ [(0 : Int)] = nums (L ++ [0]) := by simp [nums]
    rw [show k + 1 + (d + 1) = k + 1 + d + 1 by omega, schismalaw34_counts.l1, mkB_size, toU_length, if_pos (by omega), if_pos (by omega), hb, hm, nums_length, if_pos (by omega), if_pos (by omega), h0]
    refine ih k (L ++ [0]) (by rw [List.length_append, List.length_singleton]; omega) (by rw [List.length_append, List.length_singleton]; omega) ?_ r (by rw [hs]; exact hr)
    intro x
    have := hx x
    rw [List.getD_eq_getElem?_getD, List.getElem?_append]
    split
    · rw [← List.getD_eq_getElem?_getD]; exact this
    · cases x - L.length with
      | zero => simp
      | succ y => simp
theorem counts_l0 (w : List Nat) (hw : ∀ c ∈ w, c < 100) (hl : w.length ≤ 900) : ∀ (d i : Nat), i + d = w.length → ∀ k, 103 * d < k → schismalaw34_counts.l0 k (mkB (toU w)) (nums (ctsW (w.take i))) (i : Int) = some (nums (ctsW w)) := by
  intro d
  induction d with
  | zero =>
    intro i hi k hk
    obtain ⟨k, rfl⟩ : ∃ m, k = m + 1 := ⟨k - 1, by omega⟩
    rw [schismalaw34_counts.l0, mkB_size, toU_length, if_neg (by omega), List.take_of_length_le (by omega)]
  | succ d ih =>
    intro i hi k hk
    have hil : i < w.length := by omega
    have hc := small_at hw i
    obtain ⟨p, q, r⟩ := ctsW_facts _ (w.take i) rfl
    have hlen := r 100 (fun c hc => hw c (List.mem_of_mem_take hc))
    have hk' : k = (k - 2 - (w.getD i 0 + 1 - (ctsW (w.take i)).length)) + 1 + (w.getD i 0 + 1 - (ctsW (w.take i)).length) + 1 := by omega
    rw [hk', schismalaw34_counts.l0, mkB_size, toU_length, if_pos (by omega)]
    refine counts_l1 w hw i hil (by omega) _ _ _ rfl (by omega) ?_ _ ?_
    · intro x
      rw [q x]
      have := List.count_le_length (a := x) (l := w.take i)
      rw [List.length_take] at this
      omega
    · have e : ctsW (w.take (i + 1)) = cstep (ctsW (w.take i)) (w.getD i 0) := by
        rw [List.take_succ_eq_append_getElem hil, ctsW_snoc, List.getD_eq_getElem?_getD, List.getElem?_eq_getElem hil]
        rfl
      rw [← e]
      exact ih (i + 1) (by omega) _ (by omega)
theorem counts_f (w : List Nat) (hw : ∀ c ∈ w, c < 100) (hl : w.length ≤ 900) (k : Nat) (hk : 103 * w.length < k) : schismalaw34_counts.f k (mkB (toU w)) = some (nums (ctsW w)) := by
  unfold schismalaw34_counts.f
  exact counts_l0 w hw hl w.length 0 (by omega) k hk
/-! ### part -/
theorem part_l0 (w : List Nat) (hw : ∀ c ∈ w, c < 100) (h1 : 1 ≤ w.length) (hl : w.length ≤ 1000) (i n c : Nat) (hi : i ≤ 100000) (hn : n ≤ 100000) : ∀ (d k j : Nat), j + d = n → d < k →
    schismalaw34_part.l0 k (mkB (toU w)) (i : Int) (n : Int) (97 + (c : Int)) (cntN (mkB (toU w)) i j c : Int) (j : Int) = some (cntN (mkB (toU w)) i n c : Int) := by
  intro d
  induction d with
  | zero =>
    intro k j hj hk
    obtain ⟨k, rfl⟩ : ∃ m, k = m + 1 := ⟨k - 1, by omega⟩
    rw [schismalaw34_part.l0, if_neg (by omega), show j = n by omega]
  | succ d ih =>
    intro k j hj hk
    obtain ⟨k, rfl⟩ : ∃ m, k = m + 1 := ⟨k - 1, by omega⟩
    have hm : (i + j) % w.length < w.length := Nat.mod_lt _ (by omega)
    have hle := cntN_le (mkB (toU w)) i j c
    have hlt := toU_lt w hw h1 (i + j)
    rw [schismalaw34_part.l0, if_pos (by omega), mkB_size, toU_length, if_neg (by omega), ← Int.natCast_add, wrap_nat (by omega), ← Int.ofNat_tmod, if_pos (by omega), if_pos (by omega), toU_bt w hw _ hm, ← hlt, wrap_suc (by omega), wrap_suc (by omega)]
    have hs := cntN_succ (mkB (toU w)) i j c
    by_cases e : lt_ (mkB (toU w)) (i + j) = c
    · rw [if_pos (by omega)]
      rw [if_pos e] at hs
      rw [← hs]
      exact ih k (j + 1) (by omega) (by omega)
    · rw [if_neg (by omega)]
      rw [if_neg e] at hs
      rw [show cntN (mkB (toU w)) i j c = cntN (mkB (toU w)) i (j + 1) c by omega]
      exact ih k (j + 1) (by omega) (by omega)
theorem part_f (w : List Nat) (hw : ∀ c ∈ w, c < 100) (h1 : 1 ≤ w.length) (hl : w.length ≤ 1000) (i n c : Nat) (hi : i ≤ 100000) (hn : n ≤ 100000) (k : Nat) (hk : n < k) :
    schismalaw34_part.f k (mkB (toU w)) (i : Int) (n : Int) (97 + (c : Int)) = some (cntN (mkB (toU w)) i n c : Int) :=
  part_l0 w hw h1 hl i n c hi hn n k 0 (by omega) (by omega)
end Go.Proofs.Ytpommkpgiogjgaa.X
