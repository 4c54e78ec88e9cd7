/- For any Letters, Conjugate says whether the word is a rotation of the Christoffel word of its letters, and that is so exactly if it is balanced: the plain law. -/
import Derived.Test.YtpommkpgiogjgaaPureBal
import Derived.Test.YtpommkpgiogjgaaPureChr
import Derived.Test.YtpommkpgiogjgaaPureRot
import Derived.Test.YtpommkpgiogjgaaPRot2
import Derived.Test.YtpommkpgiogjgaaPConj
import Derived.Test.YtpommkpgiogjgaaECnt
import Derived.Test.YtpommkpgiogjgaaX11
set_option linter.unusedVariables false
namespace Go.Proofs.Ytpommkpgiogjgaa.X
open Go.RowKit Go.Proofs.YtpommkpgiogjgaaW.PrintWords Go.Proofs.YtpommkpgiogjgaaW.PrintLast Go.Proofs.YtpommkpgiogjgaaW.PrintMore
open Go.Proofs.Ytpommkpgiogjgaa.Conj
/-- the row of a word of letters 0 and 1 -/
def rowX (w : List Nat) (i : Nat) : Nat := w.getD (i % w.length) 0
theorem rowX_per (w : List Nat) (i : Nat) : rowX w (i + w.length) = rowX w i := by unfold rowX; rw [Nat.add_mod_right]
theorem rowX_le {w : List Nat} (hw : ∀ c ∈ w, c < 2) (i : Nat) : rowX w i < 2 := by
  unfold rowX
  rw [List.getD_eq_getElem?_getD]
  cases e : w[i % w.length]? with
  | none => simp
  | some c => exact hw c (List.mem_of_getElem? e)
theorem cnt_one {w : List Nat} (hw : ∀ c ∈ w, c < 2) (h1 : 1 ≤ w.length) (i m : Nat) : cntN (mkB (toU w)) i m 1 + S (rowX w) i = S (rowX w) (i + m) := by
  have hw' : ∀ c ∈ w, c < 100 := fun c hc => by have := hw c hc; omega
  induction m with
  | zero => simp [cntN]
  | succ m ih =>
    have a := rowX_le hw (i + m)
    have e : lt_ (mkB (toU w)) (i + m) = rowX w (i + m) := toU_lt w hw' h1 (i + m)
    rw [cntN_succ, e, ← Nat.add_assoc, S, ← ih]
    by_cases c : rowX w (i + m) = 1
    · rw [if_pos c, c]; omega
    · rw [if_neg c, show rowX w (i + m) = 0 by omega]; omega
theorem cnt_zero {w : List Nat} (hw : ∀ c ∈ w, c < 2) (h1 : 1 ≤ w.length) (i m : Nat) : cntN (mkB (toU w)) i m 0 + cntN (mkB (toU w)) i m 1 = m := by
  have hw' : ∀ c ∈ w, c < 100 := fun c hc => by have := hw c hc; omega
  induction m with
  | zero => simp [cntN]
  | succ m ih =>
    have a := rowX_le hw (i + m)
    have e : lt_ (mkB (toU w)) (i + m) = rowX w (i + m) := toU_lt w hw' h1 (i + m)
    rw [cntN_succ, cntN_succ, e]
    by_cases c : rowX w (i + m) = 1
    · rw [if_pos c, if_neg (by omega)]; omega
    · rw [if_neg c, if_pos (by omega)]; omega
theorem cnt_mod (s : ByteArray) (i m c : Nat) : cntN s (i % s.size) m c = cntN s i m c := by
  induction m with
  | zero => simp [cntN]
  | succ m ih =>
    have e : lt_ s (i % s.size + m) = lt_ s (i + m) := by unfold lt_; rw [Nat.mod_add_mod]
    rw [cntN_succ, cntN_succ, ih, e]
theorem find_none {α : Type} (f : Nat → Option α) (a b : Nat) : (List.range' a b).findSome? f = none ↔ ∀ x, a ≤ x → x < a + b → f x = none := by
  rw [List.findSome?_eq_none_iff]
  constructor
  · intro h x h1 h2; exact h x (List.mem_range'_1.2 ⟨h1, h2⟩)
  · intro h x hx; have := List.mem_range'_1.1 hx; exact h x this.1 this.2
theorem wit_none (s : ByteArray) : wit s = none ↔ ∀ m i j c, 1 ≤ m → m < s.size → i < j → j < s.size → c < 26 → badB s m i j c = false := by
  constructor
  · intro h m i j c h1 h2 h3 h4 h5
    have a := (find_none _ _ _).1 h m h1 (by omega)
    have b := (find_none _ _ _).1 a i (by omega) (by omega)
    have d := (find_none _ _ _).1 b j (by omega) (by omega)
    have e := (find_none _ _ _).1 d c (by omega) (by omega)
    by_cases g : badB s m i j c = true
    · rw [if_pos g] at e; cases e
    · exact Bool.eq_false_iff.2 g
  · intro h
    refine (find_none _ _ _).2 fun m h1 h2 => (find_none _ _ _).2 fun i h3 h4 => (find_none _ _ _).2 fun j h5 h6 => (find_none _ _ _).2 fun c h7 h8 => ?_
    rw [h m i j c (by omega) (by omega) (by omega) (by omega) (by omega)]
    rfl
theorem wit_bal {w : List Nat} (hw : ∀ c ∈ w, c < 2) (h1 : 1 ≤ w.length) : wit (mkB (toU w)) = none ↔ Bal (rowX w) w.length := by
  have hsz : (mkB (toU w)).size = w.length := by rw [mkB_size, toU_length]
  have hw' : ∀ c ∈ w, c < 100 := fun c hc => by have := hw c hc; omega
  rw [wit_none, hsz]
  constructor
  · intro h m i j hm1 hm2
    have key : ∀ i j, i < j → j < w.length → cntN (mkB (toU w)) i m 1 ≤ cntN (mkB (toU w)) j m 1 + 1 ∧ cntN (mkB (toU w)) j m 1 ≤ cntN (mkB (toU w)) i m 1 + 1 := by
      intro i j hij hj
      have b := h m i j 1 hm1 hm2 hij hj (by omega)
      unfold badB at b
      rw [Bool.or_eq_false_iff, decide_eq_false_iff_not, decide_eq_false_iff_not] at b
      omega
    have all : ∀ i j, i < w.length → j < w.length → cntN (mkB (toU w)) i m 1 ≤ cntN (mkB (toU w)) j m 1 + 1 := by
      intro i j hi hj
      rcases Nat.lt_trichotomy i j with c | c | c
      · exact (key i j c hj).1
      · subst c; omega
      · exact (key j i c hi).2
    have a := all (i % w.length) (j % w.length) (Nat.mod_lt _ (by omega)) (Nat.mod_lt _ (by omega))
    have e1 := cnt_mod (mkB (toU w)) i m 1
    have e2 := cnt_mod (mkB (toU w)) j m 1
    rw [hsz] at e1 e2
    have c1 := cnt_one hw h1 i m
    have c2 := cnt_one hw h1 j m
    omega
  · intro h m i j c hm1 hm2 hij hj hc
    have a := h m i j hm1 hm2
    have b := h m j i hm1 hm2
    have c1 := cnt_one hw h1 i m
    have c2 := cnt_one hw h1 j m
    have z1 := cnt_zero hw h1 i m
    have z2 := cnt_zero hw h1 j m
    unfold badB
    rw [Bool.or_eq_false_iff, decide_eq_false_iff_not, decide_eq_false_iff_not]
    by_cases g0 : c = 0
    · subst g0; omega
    by_cases g1 : c = 1
    · subst g1; omega
    rw [cnt_none w hw' h1 c (fun x => by have := hw c x; omega), cnt_none w hw' h1 c (fun x => by have := hw c x; omega)]
    omega
theorem toU_count (w : List Nat) (hw : ∀ c ∈ w, c < 100) (c : Nat) (hc : c < 100) : (toU w).count (UInt8.ofNat (97 + c)) = w.count c := by
  induction w with
  | nil => rfl
  | cons a w ih =>
    have ha := hw a (by simp)
    have e : toU (a :: w) = UInt8.ofNat (97 + a) :: toU w := rfl
    rw [e, List.count_cons, List.count_cons, ih (fun c h => hw c (by simp [h]))]
    by_cases g : a = c
    · subst g; simp
    · have g' : ¬ UInt8.ofNat (97 + a) = UInt8.ofNat (97 + c) := fun h => g ((ofNat_inj ha hc).1 h)
      rw [show (UInt8.ofNat (97 + a) == UInt8.ofNat (97 + c)) = false from beq_false_of_ne g', show (a == c) = false from beq_false_of_ne g]
theorem rowX_sum (w : List Nat) (hw : ∀ c ∈ w, c < 2) : ∀ i, i ≤ w.length → S (rowX w) i = (w.take i).count 1 := by
  intro i
  induction i with
  | zero => intro _; simp [S]
  | succ i ih =>
    intro hi
    have hil : i < w.length := by omega
    have hx : rowX w i = w[i] := by
      unfold rowX
      rw [Nat.mod_eq_of_lt hil, List.getD_eq_getElem?_getD, List.getElem?_eq_getElem hil]; rfl
    have hlt := hw w[i] (List.getElem_mem _)
    rw [S, ih (by omega), List.take_succ_eq_append_getElem hil, List.count_append, hx, List.count_cons, List.count_nil]
    by_cases g : w[i] = 1
    · rw [g]; simp
    · rw [show w[i] = 0 by omega]; simp
theorem count_two (w : List Nat) (hw : ∀ c ∈ w, c < 2) : w.count 0 + w.count 1 = w.length := by
  induction w with
  | nil => rfl
  | cons a w ih =>
    have ha := hw a (by simp)
    have := ih (fun c h => hw c (by simp [h]))
    rw [List.count_cons, List.count_cons, List.length_cons]
    by_cases g : a = 0
    · subst g; simp; omega
    · rw [show a = 1 by omega]; simp; omega
theorem chrW_getD (a b i : Nat) (h : i < a + b) : (chrW a b).getD i 0 = if i * b / (a + b) < (i + 1) * b / (a + b) then 98 else 97 := by
  unfold chrW
  rw [List.getD_eq_getElem?_getD, List.getElem?_map, List.getElem?_range h]
  rfl
theorem chrW_length (a b : Nat) : (chrW a b).length = a + b := by simp [chrW]
theorem chr_rot {w : List Nat} (hw : ∀ c ∈ w, c < 2) (h1 : 1 ≤ w.length) (r : Nat) (hr : r < w.length) : Chr (rowX w) w.length r ↔ rotL (toU w) r = chrW (w.count 0) (w.count 1) := by
  have hw' : ∀ c ∈ w, c < 100 := fun c hc => by have := hw c hc; omega
  have hs : S (rowX w) w.length = w.count 1 := by rw [rowX_sum w hw _ (Nat.le_refl _), List.take_length]
  have hab := count_two w hw
  have get : ∀ i, i < w.length → (rotL (toU w) r).getD i 0 = UInt8.ofNat (97 + rowX w (r + i)) := by
    intro i hi
    rw [rotL_getD (toU w) r i (by rw [toU_length]; exact hr) (by rw [toU_length]; exact hi), toU_length, toU_getD w _ (Nat.mod_lt _ (by omega))]
    rfl
  have step : ∀ i, (i + 1) * w.count 1 / w.length ≤ i * w.count 1 / w.length + 1 := by
    intro i
    have : (i + 1) * w.count 1 ≤ i * w.count 1 + w.length := by rw [Nat.succ_mul]; omega
    have := Nat.div_le_div_right (c := w.length) this
    rw [Nat.add_div_right _ (by omega)] at this
    exact this
  have mono : ∀ i, i * w.count 1 / w.length ≤ (i + 1) * w.count 1 / w.length := fun i => Nat.div_le_div_right (Nat.mul_le_mul_right _ (by omega))
  unfold Chr
  rw [hs]
  constructor
  · intro h
    apply ext_getD (by rw [rotL_length, toU_length, chrW_length, hab])
    intro i hi
    rw [rotL_length, toU_length] at hi
    have a := h i hi
    have b := rowX_le hw (r + i)
    rw [get i hi, chrW_getD _ _ i (by omega), hab]
    by_cases g : i * w.count 1 / w.length < (i + 1) * w.count 1 / w.length
    · rw [if_pos g, show rowX w (r + i) = 1 by have := step i; omega]; rfl
    · rw [if_neg g, show rowX w (r + i) = 0 by omega]; rfl
  · intro h i hi
    have a := get i hi
    have b := rowX_le hw (r + i)
    rw [h, chrW_getD _ _ i (by omega), hab] at a
    have c := step i
    have d := mono i
    by_cases g : i * w.count 1 / w.length < (i + 1) * w.count 1 / w.length
    · rw [if_pos g] at a
      have e : UInt8.ofNat (97 + 1) = UInt8.ofNat (97 + rowX w (r + i)) := a
      have := (ofNat_inj (by omega) (by omega)).1 e
      omega
    · rw [if_neg g] at a
      have e : UInt8.ofNat (97 + 0) = UInt8.ofNat (97 + rowX w (r + i)) := a
      have := (ofNat_inj (by omega) (by omega)).1 e
      omega
theorem firstR_true (l m : List UInt8) : ∀ d i, (sameR (firstR l m d i)).2 = true ↔ ∃ j, i ≤ j ∧ j < i + d ∧ rotL l j = m := by
  intro d
  induction d with
  | zero =>
    intro i
    rw [firstR]
    constructor
    · intro h; cases h
    · rintro ⟨j, h1, h2, _⟩; omega
  | succ d ih =>
    intro i
    rw [firstR]
    by_cases e : rotL l i = m
    · rw [if_pos e]
      exact ⟨fun _ => ⟨i, Nat.le_refl _, by omega, e⟩, fun _ => rfl⟩
    · rw [if_neg e, ih (i + 1)]
      constructor
      · rintro ⟨j, h1, h2, h3⟩; exact ⟨j, by omega, by omega, h3⟩
      · rintro ⟨j, h1, h2, h3⟩
        by_cases g : j = i
        · subst g; exact absurd h3 e
        · exact ⟨j, by omega, by omega, h3⟩
def chrV (a b : Nat) : List Nat := (List.range (a + b)).map fun i => if i * b / (a + b) < (i + 1) * b / (a + b) then 1 else 0
theorem chrV_toU (a b : Nat) : toU (chrV a b) = chrW a b := by
  unfold toU chrV chrW
  rw [List.map_map]
  apply List.map_congr_left
  intro i _
  simp only [Function.comp]
  split <;> rfl
theorem chrV_few (a b : Nat) (h1 : 1 ≤ a + b) (h2 : a + b ≤ 14) : Few (chrV a b) := by
  refine ⟨?_, by simp [chrV]; omega, by simp [chrV]; omega⟩
  intro c hc
  unfold chrV at hc
  rw [List.mem_map] at hc
  obtain ⟨i, _, rfl⟩ := hc
  split <;> omega
theorem chrV_length (a b : Nat) : (chrV a b).length = a + b := by simp [chrV]
/-- conjugate: some rotation of the Christoffel word is the word -/
theorem conj_two {w : List Nat} (h : Few w) (hw : ∀ c ∈ w, c < 2) (k : Nat) (hk : 61 ≤ k) :
    word_Conjugate.f k (mkB (toU w)) = some ((sameR (firstR (chrW (w.count 0) (w.count 1)) (toU w) (w.count 0 + w.count 1) 0)).2, 0) := by
  have hp := h.pos
  have hl := h.len
  have hab := count_two w hw
  have hw' : ∀ c ∈ w, c < 100 := fun c hc => by have := hw c hc; omega
  have ca : strings_Count.f (mkB (toU w)) (⟨#[97]⟩ : ByteArray) = some ((w.count 0 : Nat) : Int) := by
    rw [← toU_count w hw' 0 (by omega)]; rfl
  have cb : strings_Count.f (mkB (toU w)) (⟨#[98]⟩ : ByteArray) = some ((w.count 1 : Nat) : Int) := by
    rw [← toU_count w hw' 1 (by omega)]; rfl
  unfold word_Conjugate.f
  rw [check_f w (fun c hc => by have := hw c hc; omega) hp (by omega) k hk, Option.bind_some, if_pos rfl, ca, Option.bind_some, cb, Option.bind_some, ← Int.natCast_add, wrap_nat (by omega), mkB_size, toU_length, if_pos (by omega)]
  have ec : word_Christoffel.f ((w.count 0 : Nat) : Int) ((w.count 1 : Nat) : Int) = some (mkB (chrW (w.count 0) (w.count 1)), 0) := by
    unfold word_Christoffel.f
    rw [if_pos (by omega)]
    rfl
  have hs := wsame_f (chrV_few (w.count 0) (w.count 1) (by omega) (by omega)) h k hk
  rw [chrV_toU, chrV_length] at hs
  rw [ec, Option.bind_some]
  simp only
  rw [if_pos trivial, hs, Option.bind_some]
theorem conj_three {w : List Nat} (h : Few w) (hw : ∃ c ∈ w, 2 ≤ c) (k : Nat) (hk : 61 ≤ k) : word_Conjugate.f k (mkB (toU w)) = some (false, 0) := by
  have hp := h.pos
  have hl := h.len
  have hw' := h.lt100
  have lt : w.count 0 + w.count 1 < w.length := by
    obtain ⟨c, hc, h2⟩ := hw
    have key : ∀ v : List Nat, v.count 0 + v.count 1 ≤ v.length ∧ (c ∈ v → v.count 0 + v.count 1 < v.length) := by
      intro v
      induction v with
      | nil => simp
      | cons a v ih =>
        rw [List.count_cons, List.count_cons, List.length_cons]
        by_cases g0 : a = 0
        · subst g0
          refine ⟨by simp; omega, fun m => ?_⟩
          have : c ∈ v := by rcases List.mem_cons.1 m with e | e; omega; exact e
          have := ih.2 this
          simp; omega
        by_cases g1 : a = 1
        · subst g1
          refine ⟨by simp; omega, fun m => ?_⟩
          have : c ∈ v := by rcases List.mem_cons.1 m with e | e; omega; exact e
          have := ih.2 this
          simp; omega
        have := ih.1
        refine ⟨by simp [g0, g1]; omega, fun _ => by simp [g0, g1]; omega⟩
    exact (key w).2 hc
  have ca : strings_Count.f (mkB (toU w)) (⟨#[97]⟩ : ByteArray) = some ((w.count 0 : Nat) : Int) := by
    rw [← toU_count w hw' 0 (by omega)]; rfl
  have cb : strings_Count.f (mkB (toU w)) (⟨#[98]⟩ : ByteArray) = some ((w.count 1 : Nat) : Int) := by
    rw [← toU_count w hw' 1 (by omega)]; rfl
  unfold word_Conjugate.f
  rw [check_f w h.lt26 hp (by omega) k hk, Option.bind_some, if_pos rfl, ca, Option.bind_some, cb, Option.bind_some, ← Int.natCast_add, wrap_nat (by omega), mkB_size, toU_length, if_neg (by omega)]
theorem conj_bal {w : List Nat} (h : Few w) (hw : ∀ c ∈ w, c < 2) : (balF (mkB (toU w))).1 = true ↔ leastL (toU w) = leastL (chrW (w.count 0) (w.count 1)) := by
  have hp := h.pos
  have hab := count_two w hw
  have e1 : (balF (mkB (toU w))).1 = true ↔ wit (mkB (toU w)) = none := by
    unfold balF
    cases wit (mkB (toU w)) with
    | none => simp
    | some q => obtain ⟨n, i, j, c⟩ := q; simp
  rw [e1, wit_bal hw hp, leastL_iff (toU w) _ (by rw [toU_length, chrW_length]; omega) (by rw [toU_length]; exact hp)]
  rw [toU_length]
  constructor
  · intro hb
    obtain ⟨r, hr, hc⟩ := bal_chr (by omega) (rowX_per w) hb
    exact ⟨r, hr, (chr_rot hw hp r hr).1 hc⟩
  · rintro ⟨r, hr, hc⟩
    exact chr_bal (by omega) (rowX_per w) hr ((chr_rot hw hp r hr).2 hc)
theorem conj_same {w : List Nat} (h : Few w) (hw : ∀ c ∈ w, c < 2) : (sameR (firstR (chrW (w.count 0) (w.count 1)) (toU w) (w.count 0 + w.count 1) 0)).2 = true ↔ leastL (toU w) = leastL (chrW (w.count 0) (w.count 1)) := by
  have hp := h.pos
  have hab := count_two w hw
  rw [firstR_true, eq_comm (a := leastL (toU w)), leastL_iff _ _ (by rw [toU_length, chrW_length]; omega) (by rw [chrW_length]; omega), chrW_length]
  constructor
  · rintro ⟨j, _, h2, h3⟩; exact ⟨j, by omega, h3⟩
  · rintro ⟨j, h2, h3⟩; exact ⟨j, by omega, by omega, h3⟩
theorem conj_j0 {w : List Nat} (h : Few w) (hw : ∀ c ∈ w, c < 2) (k : Nat) (hk : 200 ≤ k) (T : List Nat) (hT : 0 < T.length) (h0 : T.getD 0 0 = w.count 0) :
    schismalaw34_WordConjugates.j0 (k + 1) (mkB (toU w)) (sameR (firstR (chrW (w.count 0) (w.count 1)) (toU w) (w.count 0 + w.count 1) 0)).2 0 (nums T) ((w.count 1 : Nat) : Int) = some true := by
  have hp := h.pos
  have hl := h.len
  have hab := count_two w hw
  have hr := nums_rd T 0
  rw [h0] at hr
  have hr' : rd (nums T) 0 = ((w.count 0 : Nat) : Int) := hr
  have hc : schismalaw34_christoffel.f k ((w.count 0 : Nat) : Int) ((w.count 1 : Nat) : Int) = some (mkB (chrW (w.count 0) (w.count 1))) := christoffel_f _ _ (by omega) (by omega) k (by omega)
  have l1 := least_f (chrW (w.count 0) (w.count 1)) (by rw [chrW_length]; omega) (by rw [chrW_length]; omega) k (by rw [chrW_length]; omega)
  have l2 := least_f (toU w) (by rw [toU_length]; omega) (by rw [toU_length]; omega) k (by rw [toU_length]; omega)
  have a := conj_bal h hw
  have b := conj_same h hw
  rw [schismalaw34_WordConjugates.j0, nums_length, if_pos (by omega), hr', hc, Option.bind_some, l1, Option.bind_some, l2, Option.bind_some, wordBalanced_f h k (by omega), Option.bind_some, if_pos rfl]
  simp only [mkB_toList]
  change (if ((sameR (firstR (chrW (w.count 0) (w.count 1)) (toU w) (w.count 0 + w.count 1) 0)).2 == (leastL (toU w) == leastL (chrW (w.count 0) (w.count 1)))) = true then _ else _) = _
  have e3 : (balF (mkB (toU w))).2.2.2.2.2 = 0 := by
    unfold balF
    cases wit (mkB (toU w)) with
    | none => rfl
    | some q => obtain ⟨n, i, j, c⟩ := q; rfl
  rw [e3]
  generalize (sameR (firstR (chrW (w.count 0) (w.count 1)) (toU w) (w.count 0 + w.count 1) 0)).2 = X at *
  generalize (balF (mkB (toU w))).1 = Y at *
  by_cases g : leastL (toU w) = leastL (chrW (w.count 0) (w.count 1))
  · rw [a.2 g, b.2 g, g]; simp
  · have ya : Y = false := Bool.eq_false_iff.2 (fun y => g (a.1 y))
    have xb : X = false := Bool.eq_false_iff.2 (fun y => g (b.1 y))
    rw [ya, xb]; simp [g]
theorem pure_WordConjugates (L : List Int) (a : Int) (hL : ∀ x ∈ L, (Lit.int .u8 x).wf = true) (ha : (Lit.int .u8 a).wf = true) : ∃ k, schismalaw34_WordConjugates.f k L a = some true := by
  obtain ⟨R, m, rfl, rfl, hR, hm⟩ := open_letters L a hL ha
  have hf := make_few R m
  have hmk := make_f R m hR hm
  generalize makeW R m = w at hf hmk
  have hp := hf.pos
  have hl := hf.len
  refine ⟨5001, ?_⟩
  obtain ⟨p, q, r⟩ := ctsW_facts _ w rfl
  have hc := counts_f w hf.lt100 (by omega) 5001 (by omega)
  unfold schismalaw34_WordConjugates.f
  rw [known_all _ (by omega), Option.bind_some, if_pos rfl, hmk _ (by omega), Option.bind_some]
  by_cases hw : ∀ c ∈ w, c < 2
  · have hlen := r 2 hw
    have h0 : 0 < (ctsW w).length := by
      cases w with
      | nil => simp at hp
      | cons c w => have := p c (by simp); omega
    rw [conj_two hf hw _ (by omega), Option.bind_some, hc, Option.bind_some, nums_length, if_neg (by omega)]
    simp only
    by_cases h2 : (ctsW w).length = 2
    · have e := nums_rd (ctsW w) 1
      rw [q 1] at e
      have e' : rd (nums (ctsW w)) 1 = ((w.count 1 : Nat) : Int) := e
      rw [if_pos (by omega), if_pos (by omega), e']
      exact conj_j0 hf hw 5000 (by omega) (ctsW w) h0 (q 0)
    · have e := q 1
      rw [List.getD_eq_getElem?_getD, List.getElem?_eq_none (by omega)] at e
      have e' : w.count 1 = 0 := e.symm
      rw [if_neg (by omega)]
      have := conj_j0 hf hw 5000 (by omega) (ctsW w) h0 (q 0)
      rw [show ((w.count 1 : Nat) : Int) = 0 by omega] at this
      exact this
  · have hw2 : ∃ c ∈ w, 2 ≤ c := by
      by_cases e : ∃ c ∈ w, 2 ≤ c
      · exact e
      · exact absurd (fun c hc => by by_cases g : c < 2; exact g; exact absurd ⟨c, hc, by omega⟩ e) hw
    obtain ⟨c, hcw, h2⟩ := hw2
    have := p c hcw
    rw [conj_three hf ⟨c, hcw, h2⟩ _ (by omega), Option.bind_some, hc, Option.bind_some, nums_length, if_pos (by omega)]
    rfl
/-- the law's walk, over any Letters -/
theorem walk_WordConjugates (a0 : Option Addr) (len0 cap0 : Nat) (z0 : List Int) (m : Int) (w : World) (w0 : (a0 = none ∧ len0 = 0 ∧ cap0 = 0 ∧ z0 = []) ∨ ∃ x, a0 = some x ∧ len0 ≤ cap0 ∧ cap0 ≤ maxLen ∧ z0.length = cap0 ∧ (∀ i, i < z0.length → w.cell? (x.add i) = some (.int .u8 (z0.getD i 0))) ∧ ∀ n ∈ z0, (Lit.int .u8 n).wf = true) (hm : (Lit.int .u8 m).wf = true) :
    Calls Try.prog 9 #[.agg #[.slice a0 len0 cap0, .int .u8 m]] w fun e w' => e = .returned (.bool true) ∧ Below w.heap.size w w' := by
  obtain ⟨l0, rfl, hr0, hm0, hw0, hc0⟩ := ReadsInt.ofRowC w0
  obtain ⟨k, h⟩ := pure_WordConjugates l0 m hw0 hm
  refine (schismalaw34_WordConjugates.calls k _ _ l0 m true w (Kd.C_of_reads (d := (0 : Int)) (h1 := fun _ => rfl) hr0) hc0 h).mono ?_
  rintro e w' ⟨rfl, hd⟩
  exact ⟨rfl, hd⟩
end Go.Proofs.Ytpommkpgiogjgaa.X
