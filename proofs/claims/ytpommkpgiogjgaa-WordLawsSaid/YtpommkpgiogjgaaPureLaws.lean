/- For any described word and any two numbers, rotations compose, have one least rotation, the root repeated is the word, and the least rotation is once among the necklaces: the plain law. -/
import Derived.Test.YtpommkpgiogjgaaPCts
import Derived.Test.YtpommkpgiogjgaaPureRot
import Derived.Test.YtpommkpgiogjgaaX10
set_option linter.unusedVariables false
namespace Go.Proofs.Ytpommkpgiogjgaa.X
open Go.RowKit Go.Proofs.YtpommkpgiogjgaaW.PrintWords Go.Proofs.YtpommkpgiogjgaaW.PrintLast Go.Proofs.YtpommkpgiogjgaaW.PrintMore
open Go.Proofs.Ytpommkpgiogjgaa.Fkm
theorem wRotate_f {w : List Nat} (h : Few w) (a : Int) (k : Nat) (hk : 61 ≤ k) : word_Rotate.f k (mkB (toU w)) a = some (mkB (toU (rotW w (spot a w.length))), 0) := by
  have hl := h.len
  unfold word_Rotate.f
  rw [check_f w (fun c hc => by have := h.letters c hc; omega) h.pos (by omega) k hk, Option.bind_some, if_pos rfl, wrotate_any (toU w) a (by rw [toU_length]; exact h.pos) (by rw [toU_length]; omega), Option.bind_some, toU_length, rotW_toU]
theorem rotW_rotW (w : List Nat) (a b : Int) (h : 1 ≤ w.length) : toU (rotW (rotW w (spot a w.length)) (spot b w.length)) = toU (rotW w (spot (a + b) w.length)) := by
  have hl : (toU w).length = w.length := toU_length w
  rw [rotW_toU, rotW_toU, rotW_toU, rotL_rotL (toU w) _ _ (by rw [hl]; exact spot_lt a _ h) (by rw [hl]; exact spot_lt b _ h), hl, spot_add a b w.length h]
theorem wleast_L {w : List Nat} (h : Few w) (k : Nat) (hk : 61 ≤ k) : ∃ at_ : Int, word_Least.f k (mkB (toU w)) = some (mkB (leastL (toU w)), at_, 0) := ⟨_, wleast_f h k hk⟩
/-- the root, some times -/
theorem root_step (l : List UInt8) (p : Nat) (hp : IsPer l p) (j : Nat) (hj : (j + 1) * p ≤ l.length) : l.take (j * p) ++ l.take p = l.take ((j + 1) * p) := by
  have hpos := hp.pos
  have e : (j + 1) * p = j * p + p := Nat.succ_mul j p
  have hjp : (l.take (j * p)).length = j * p := by rw [List.length_take]; omega
  apply ext_getD
  · rw [List.length_append, List.length_take, List.length_take, List.length_take]; omega
  intro t ht
  rw [List.length_append, hjp, List.length_take] at ht
  have gt : ∀ n x, x < n → (l.take n).getD x 0 = l.getD x 0 := fun n x hx => by
    rw [List.getD_eq_getElem?_getD, List.getD_eq_getElem?_getD, List.getElem?_take_of_lt hx]
  rw [gt ((j + 1) * p) t (by omega), List.getD_eq_getElem?_getD, List.getElem?_append, hjp]
  by_cases h : t < j * p
  · rw [if_pos h, ← List.getD_eq_getElem?_getD, gt _ _ h]
  · rw [if_neg h, ← List.getD_eq_getElem?_getD, gt p _ (by omega)]
    by_cases h0 : j = 0
    · subst h0; rw [Nat.zero_mul, Nat.sub_zero]
    · have hlt : p < l.length := by
        have : 2 * p ≤ (j + 1) * p := Nat.mul_le_mul_right p (by omega)
        omega
      have a := rot_mul l p hlt ((rot_self l p hlt).1 (hp.at_ hlt)) j (t - j * p) (by omega)
      rw [← a, show j * p + (t - j * p) = t by omega, Nat.mod_eq_of_lt (by omega)]
theorem per_dvd (l : List UInt8) (p : Nat) (hp : IsPer l p) : l.length / p * p = l.length := by
  have hpos := hp.pos
  have hle := hp.le
  by_cases e : p < l.length
  · have := first_div l p hpos e (hp.at_ e) hp.min
    have a := Nat.div_add_mod l.length p
    rw [Nat.mul_comm]; omega
  · obtain rfl : p = l.length := by omega
    rw [Nat.div_self (by omega), Nat.one_mul]
theorem laws_l0 (l s : List UInt8) (p : Nat) (hp : IsPer l p) (hl : l.length ≤ 14) (h1 : 1 ≤ l.length) (k : Nat) (r : Option Bool) (hr : schismalaw34_WordLaws.j2 k (mkB l) (mkB s) (mkB l) = r) : ∀ d j, j + d = l.length / p →
    schismalaw34_WordLaws.l0 (k + 1 + d) (mkB l) (mkB s) (mkB (l.take p)) ((l.length / p : Nat) : Int) (mkB (l.take (j * p))) (j : Int) = r := by
  have hpos := hp.pos
  have hq : l.length / p ≤ 14 := Nat.le_trans (Nat.div_le_self _ _) hl
  have hd := per_dvd l p hp
  intro d
  induction d with
  | zero =>
    intro j hj
    obtain rfl : j = l.length / p := by omega
    rw [show k + 1 + 0 = k + 1 from rfl, schismalaw34_WordLaws.l0, if_neg (by omega), hd, List.take_length]
    exact hr
  | succ d ih =>
    intro j hj
    have hle : (j + 1) * p ≤ l.length := by
      rw [← hd]
      exact Nat.mul_le_mul_right p (by omega)
    rw [show k + 1 + (d + 1) = k + 1 + d + 1 by omega, schismalaw34_WordLaws.l0, if_pos (by omega), if_pos (by omega), if_pos (by rw [mkB_size, mkB_size, List.length_take, List.length_take]; omega), mkB_append, root_step l p hp j hle, wrap_suc (by omega)]
    exact ih (j + 1) (by omega)
theorem laws_l1 (s : List UInt8) (A : List ByteArray) (hA : A.length ≤ 100000) : ∀ d k i n, i + d = A.length → n + d ≤ 100000 → d < k → n + ((A.drop i).filter fun y => y.toList == s).length = 1 →
    schismalaw34_WordLaws.l1 k (mkB s) 0 A 0 (n : Int) (i : Int) = some true := by
  intro d
  induction d with
  | zero =>
    intro k i n hi hn hk h
    obtain ⟨k, rfl⟩ : ∃ m, k = m + 1 := ⟨k - 1, by omega⟩
    rw [List.drop_of_length_le (by omega)] at h
    have : n = 1 := by simpa using h
    subst this
    rw [schismalaw34_WordLaws.l1, if_neg (by omega), if_pos rfl, if_pos rfl]
    rfl
  | succ d ih =>
    intro k i n hi hn hk h
    obtain ⟨k, rfl⟩ : ∃ m, k = m + 1 := ⟨k - 1, by omega⟩
    have hil : i < A.length := by omega
    have hrd : rdOf ByteArray.empty A (i : Int) = A[i] := by
      unfold rdOf
      rw [Int.toNat_natCast, List.getD_eq_getElem?_getD, List.getElem?_eq_getElem hil]
      rfl
    rw [List.drop_eq_getElem_cons hil, List.filter_cons] at h
    rw [schismalaw34_WordLaws.l1, if_pos (by omega), if_pos (by omega), hrd, mkB_toList, wrap_suc (by omega), wrap_suc (by omega)]
    by_cases e : A[i].toList = s
    · rw [if_pos e]
      rw [if_pos (by simpa using e), List.length_cons] at h
      exact ih k (i + 1) (n + 1) (by omega) (by omega) (by omega) (by omega)
    · rw [if_neg e]
      rw [if_neg (by simpa using e)] at h
      exact ih k (i + 1) n (by omega) (by omega) (by omega) h
theorem toU_inj {v w : List Nat} (hv : ∀ c ∈ v, c < 100) (hw : ∀ c ∈ w, c < 100) (h : toU v = toU w) : v = w := by
  induction v generalizing w with
  | nil => cases w with
    | nil => rfl
    | cons b w => simp [toU] at h
  | cons a v ih =>
    cases w with
    | nil => simp [toU] at h
    | cons b w =>
      have h' : UInt8.ofNat (97 + a) = UInt8.ofNat (97 + b) ∧ toU v = toU w := by simpa [toU] using h
      rw [(ofNat_inj (hv a (by simp)) (hw b (by simp))).1 h'.1, ih (fun c hc => hv c (by simp [hc])) (fun c hc => hw c (by simp [hc])) h'.2]
theorem refN_letters : ∀ (s : Nat) (u R y : List Nat), y ∈ refN s u R → ∀ c ∈ y, c ∈ u ∨ c < R.length := by
  intro s
  induction s with
  | zero =>
    intro u R y h c hc
    simp only [refN] at h
    split at h
    · have : y = u := by simpa using h
      subst this; exact .inl hc
    · cases h
  | succ s ih =>
    intro u R y h c hc
    simp only [refN, List.mem_flatMap] at h
    obtain ⟨i, hi, h⟩ := h
    split at h
    · cases h
    · rcases ih _ _ _ h c hc with h | h
      · rcases List.mem_append.1 h with h | h
        · exact .inl h
        · have : c = i := by simpa using h
          subst this; exact .inr (List.mem_range.1 hi)
      · rw [List.length_set] at h; exact .inr h
/-- the least rotation is once among the necklaces with the word's letters -/
theorem least_once {w : List Nat} (h : Few w) : (((refN (ctsW w).sum [] (ctsW w)).map toB).filter fun y => y.toList == leastL (toU w)).length = 1 := by
  obtain ⟨i, hi, he⟩ := leastL_rot (toU w) (by rw [toU_length]; exact h.pos)
  rw [← rotW_toU] at he
  have hv := rotW_few h i
  have hcnt := rotW_count w i
  have hlen := rotW_length w i
  have hmem := rotW_mem w i
  generalize rotW w i = v at he hv hcnt hlen hmem
  obtain ⟨p, q, r⟩ := ctsW_facts _ w rfl
  have hr := r 4 h.letters
  have hn : Neck v := by
    rw [← neck_bytes v hv.lt100 hv.pos, ← he]
    show leastL (leastL (toU w)) = leastL (toU w)
    obtain ⟨i, hi, he'⟩ := leastL_rot (toU w) (by rw [toU_length]; exact h.pos)
    conv => lhs; rw [he']
    exact leastL_of_rot (toU w) i hi
  have hc := refN_count v [] (ctsW w) (fun c hc => p c (hmem c hc)) (fun c => by rw [q c, hcnt c]) hn
  rw [List.nil_append, hlen, ← cts_sum w] at hc
  rw [List.count_eq_countP, List.countP_eq_length_filter] at hc
  rw [List.filter_map, List.length_map, ← hc]
  congr 1
  apply List.filter_congr
  intro y hy
  have hl100 : ∀ c ∈ y, c < 100 := fun c hc => by
    rcases refN_letters _ _ _ _ hy c hc with h | h
    · cases h
    · omega
  show ((toB y).toList == leastL (toU w)) = (y == v)
  rw [toB_mkB, mkB_toList, he]
  by_cases e : y = v
  · subst e; simp
  · have : toU y ≠ toU v := fun c => e (toU_inj hl100 hv.lt100 c)
    exact (beq_eq_false_iff_ne.2 this).trans (beq_eq_false_iff_ne.2 e).symm
theorem laws_j2 {w : List Nat} (h : Few w) (k : Nat) (hk : 6000 ≤ k) : schismalaw34_WordLaws.j2 k (mkB (toU w)) (mkB (leastL (toU w))) (mkB (toU w)) = some true := by
  obtain ⟨k, rfl⟩ : ∃ m, k = m + 1 + 1 := ⟨k - 2, by omega⟩
  have hl := h.len
  have hpos := h.pos
  rw [schismalaw34_WordLaws.j2, if_pos rfl, schismalaw34_WordLaws.j3, mkB_size, toU_length]
  by_cases h7 : (w.length : Int) > 7
  · rw [decide_eq_true h7, if_pos rfl]
    simp
  · rw [decide_eq_false h7, if_neg (by simp)]
    obtain ⟨p, q, r⟩ := ctsW_facts _ w rfl
    have hs := cts_sum w
    obtain ⟨a, b⟩ := neck_seven (ctsW w) (r 4 h.letters) (by omega) (by omega)
    rw [wcounts_f w (fun c hc => by have := h.letters c hc; omega) hpos (by omega) k (by omega), Option.bind_some]
    rw [a, Option.bind_some]
    exact laws_l1 (leastL (toU w)) _ (by rw [List.length_map]; omega) _ k 0 0 (by rw [Nat.zero_add]) (by rw [List.length_map]; omega) (by rw [List.length_map]; omega) (by rw [Nat.zero_add, List.drop_zero]; exact least_once h)
theorem wrap_i8 (a : Int) (h : -128 ≤ a ∧ a ≤ 127) : wrap64 a = a := by unfold wrap64; omega
theorem wrap64_add_i8 {a b : Int} (h : -128 ≤ a ∧ a ≤ 127) (g : -128 ≤ b ∧ b ≤ 127) : wrap64 (a + b) = a + b := by unfold wrap64; omega
theorem pure_WordLaws (L : List Int) (m a b : Int) (hL : ∀ x ∈ L, (Lit.int .u8 x).wf = true) (hm : (Lit.int .u8 m).wf = true) (ha : (Lit.int .i8 a).wf = true) (hb : (Lit.int .i8 b).wf = true) :
    ∃ k, schismalaw34_WordLaws.f k L m a b = some true := by
  have ha' : -128 ≤ a ∧ a ≤ 127 := by simpa [Lit.wf, IntKind.min, IntKind.max, IntKind.signed, IntKind.bits] using ha
  have hb' : -128 ≤ b ∧ b ≤ 127 := by simpa [Lit.wf, IntKind.min, IntKind.max, IntKind.signed, IntKind.bits] using hb
  obtain ⟨R, m, rfl, rfl, hR, hm⟩ := open_letters L m hL hm
  have hf := make_few R m
  have hmk := make_f R m hR hm
  generalize makeW R m = w at hf hmk
  have hl := hf.len
  have hpos := hf.pos
  have gf := rotW_few hf (spot a w.length)
  have hq := isPer (toU w) (by rw [toU_length]; exact hpos)
  have hj2 := laws_j2 hf 6000 (Nat.le_refl _)
  have hl0 := laws_l0 (toU w) (leastL (toU w)) (perW (toU w)) hq (by rw [toU_length]; exact hl) (by rw [toU_length]; exact hpos) 6000 _ hj2 ((toU w).length / perW (toU w)) 0 (by omega)
  rw [Nat.zero_mul, List.take_zero] at hl0
  obtain ⟨K, hK⟩ : ∃ K, K = 6000 + 1 + (toU w).length / perW (toU w) := ⟨_, rfl⟩
  have hK1 : 6000 ≤ K := by rw [hK, Nat.add_assoc]; exact Nat.le_add_right _ _
  rw [← hK] at hl0
  refine ⟨K + 1, ?_⟩
  obtain ⟨x, hx⟩ := wleast_L hf (K + 1) (by omega)
  obtain ⟨y, hy⟩ := wleast_L gf (K + 1) (by omega)
  have e1 : leastL (toU (rotW w (spot a w.length))) = leastL (toU w) := by
    rw [rotW_toU]
    exact leastL_of_rot (toU w) _ (by rw [toU_length]; exact spot_lt a _ hpos)
  have e2 := rotW_rotW w a b hpos
  have e3 : (rotW w (spot a w.length)).length = w.length := rotW_length _ _
  have hR2 := wRotate_f gf b (K + 1) (by omega)
  rw [e3, e2] at hR2
  unfold schismalaw34_WordLaws.f
  rw [known_all _ (by omega), Option.bind_some, if_pos rfl, hmk _ (by omega), Option.bind_some, wrap_i8 a ha', wrap_i8 b hb', wrap64_add_i8 ha' hb', wRotate_f hf a _ (by omega), Option.bind_some]
  simp only
  rw [hR2, Option.bind_some, wRotate_f hf (a + b) _ (by omega), Option.bind_some, hx, Option.bind_some, hy, Option.bind_some, wprim_f hf _ (by omega), Option.bind_some, e1]
  simp only
  rw [if_pos trivial, if_pos trivial, if_pos trivial, if_pos trivial, if_pos trivial, if_pos trivial, if_pos trivial, bne_self_eq_false, schismalaw34_WordLaws.j0, if_neg (by simp)]
  rw [toU_length] at hl0
  exact hl0
/-- the law's walk, over any Letters and any two numbers -/
theorem walk_WordLaws (a0 : Option Addr) (len0 cap0 : Nat) (z0 : List Int) (m0 a1 a2 : Int) (w : World) (w0 : ((a0 = none ∧ len0 = 0 ∧ cap0 = 0 ∧ z0 = []) ∨ ∃ x, a0 = some x ∧ len0 ≤ cap0 ∧ cap0 ≤ maxLen ∧ z0.length = cap0 ∧ (∀ i, i < z0.length → w.cell? (x.add i) = some (.int .u8 (z0.getD i 0))) ∧ ∀ n ∈ z0, (Lit.int .u8 n).wf = true)) (wm0 : (Lit.int .u8 m0).wf = true) (w1 : (Lit.int .i8 a1).wf = true) (w2 : (Lit.int .i8 a2).wf = true) :
    Calls Try.prog 8 #[.agg #[.slice a0 len0 cap0, .int .u8 m0], .int .i8 a1, .int .i8 a2] w fun e w' => e = .returned (.bool true) ∧ Below w.heap.size w w' := by
  obtain ⟨l0, rfl, hr0, hm0, hw0, hc0⟩ := ReadsInt.ofRowC w0
  obtain ⟨k, h⟩ := pure_WordLaws l0 m0 a1 a2 hw0 wm0 w1 w2
  refine (schismalaw34_WordLaws.calls k _ _ l0 m0 a1 a2 true w (Kd.C_of_reads (d := (0 : Int)) (h1 := fun _ => rfl) hr0) hc0 h).mono ?_
  rintro e w' ⟨rfl, hd⟩
  exact ⟨rfl, hd⟩
end Go.Proofs.Ytpommkpgiogjgaa.X
