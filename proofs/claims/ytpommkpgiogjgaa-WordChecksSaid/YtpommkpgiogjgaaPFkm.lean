/- The search for necklaces, letter by letter, finds what the definition says: plain mathematics. -/
/- The necklaces' law in plain Lean: the letter-by-letter search finds just the words that are their own least rotation, in the order of the dictionary. No program in it. -/
namespace Go.Proofs.Ytpommkpgiogjgaa.Fkm

/-- letter i of a word -/
abbrev at_ (w : List Nat) (i : Nat) : Nat := w.getD i 0

/-- every suffix of the first k letters is at least the beginning of its length -/
def Pre (w : List Nat) (k : Nat) : Prop := ∀ i j, 1 ≤ i → i + j < k → (∀ t, t < j → at_ w t = at_ w (i + t)) → at_ w j ≤ at_ w (i + j)
def Per (w : List Nat) (k i : Nat) : Prop := ∀ t, i + t < k → at_ w t = at_ w (i + t)
structure LeastPer (w : List Nat) (k p : Nat) : Prop where
  pos : 1 ≤ p
  le : p ≤ k
  per : Per w k p
  least : ∀ i, 1 ≤ i → i < p → ¬ Per w k i
/-- w is the least of its rotations -/
def Neck (w : List Nat) : Prop := ∀ i j, i < w.length → j < w.length → (∀ t, t < j → at_ w t = at_ w ((i + t) % w.length)) → at_ w j ≤ at_ w ((i + j) % w.length)

theorem at_snoc_lt (w : List Nat) (b i : Nat) (h : i < w.length) : at_ (w ++ [b]) i = at_ w i := by
  simp [at_, List.getD_eq_getElem?_getD, List.getElem?_append_left h]
theorem at_snoc_end (w : List Nat) (b : Nat) : at_ (w ++ [b]) w.length = b := by
  simp [at_, List.getD_eq_getElem?_getD]

theorem claimM {w : List Nat} {k p i : Nat} (hp : Pre w k) (hl : LeastPer w k p) (hi : 1 ≤ i) (hik : i ≤ k) (hper : Per w k i) : at_ w (k - i) ≤ at_ w (k - p) := by
  have h1 := hl.pos
  have h2 := hl.le
  have hpi : p ≤ i := by
    rcases Nat.lt_or_ge i p with h | h
    · exact absurd hper (hl.least i hi h)
    · exact h
  rcases Nat.eq_or_lt_of_le hpi with rfl | hlt
  · exact Nat.le_refl _
  · have h := hp (i - p) (k - i) (by omega) (by omega) (fun t ht => by
      have a := hper t (by omega)
      have b := hl.per (i - p + t) (by omega)
      rw [show p + (i - p + t) = i + t by omega] at b
      rw [a, b])
    rw [show i - p + (k - i) = k - p by omega] at h
    exact h

theorem pre_snoc {w : List Nat} {p b : Nat} (hp : Pre w w.length) (hl : LeastPer w w.length p) (hb : at_ w (w.length - p) ≤ b) : Pre (w ++ [b]) (w.length + 1) := by
  intro i j hi hij hag
  have hj : j < w.length := by omega
  rw [at_snoc_lt w b j hj]
  by_cases h : i + j < w.length
  · rw [at_snoc_lt w b _ h]
    exact hp i j hi h (fun t ht => by
      have a := hag t ht
      rwa [at_snoc_lt w b t (by omega), at_snoc_lt w b (i + t) (by omega)] at a)
  · have e : i + j = w.length := by omega
    rw [e, at_snoc_end]
    have hper : Per w w.length i := fun t ht => by
      have a := hag t (by omega)
      rwa [at_snoc_lt w b t (by omega), at_snoc_lt w b (i + t) (by omega)] at a
    have := claimM hp hl hi (by omega) hper
    rw [show w.length - i = j by omega] at this
    omega

theorem per_of_snoc {w : List Nat} {b i : Nat} (h : Per (w ++ [b]) (w.length + 1) i) : Per w w.length i := fun t ht => by
  have a := h t (by omega)
  rwa [at_snoc_lt w b t (by omega), at_snoc_lt w b (i + t) (by omega)] at a

theorem least_same {w : List Nat} {p : Nat} (hl : LeastPer w w.length p) : LeastPer (w ++ [at_ w (w.length - p)]) (w.length + 1) p := by
  have h1 := hl.pos
  have h2 := hl.le
  refine ⟨hl.pos, by omega, fun t ht => ?_, fun i hi hip hper => hl.least i hi hip (per_of_snoc hper)⟩
  by_cases h : p + t < w.length
  · rw [at_snoc_lt _ _ t (by omega), at_snoc_lt _ _ _ h]
    exact hl.per t h
  · rw [show p + t = w.length by omega, at_snoc_end, at_snoc_lt _ _ t (by omega), show w.length - p = t by omega]

theorem least_new {w : List Nat} {p b : Nat} (hp : Pre w w.length) (hl : LeastPer w w.length p) (hb : at_ w (w.length - p) < b) : LeastPer (w ++ [b]) (w.length + 1) (w.length + 1) := by
  refine ⟨by omega, Nat.le_refl _, fun t ht => by omega, fun i hi hik hper => ?_⟩
  have a := claimM hp hl hi (by omega) (per_of_snoc hper)
  have c := hper (w.length - i) (by omega)
  rw [show i + (w.length - i) = w.length by omega, at_snoc_end, at_snoc_lt _ _ _ (by omega)] at c
  omega

theorem not_pre_snoc {w : List Nat} {p b : Nat} (hl : LeastPer w w.length p) (hb : b < at_ w (w.length - p)) : ¬ Pre (w ++ [b]) (w.length + 1) := by
  intro h
  have h1 := hl.pos
  have h2 := hl.le
  have a := h p (w.length - p) hl.pos (by omega) (fun t ht => by
    rw [at_snoc_lt _ _ t (by omega), at_snoc_lt _ _ (p + t) (by omega)]
    exact hl.per t (by omega))
  rw [show p + (w.length - p) = w.length by omega, at_snoc_end, at_snoc_lt _ _ _ (by omega)] at a
  omega

theorem pre_one (c : Nat) : Pre [c] 1 := fun i j hi hij _ => by omega
theorem least_one (c : Nat) : LeastPer [c] 1 1 := ⟨Nat.le_refl _, Nat.le_refl _, fun t ht => by omega, fun i hi hi2 => by omega⟩

theorem Pre.mono {w : List Nat} {k k' : Nat} (h : Pre w k) (hk : k' ≤ k) : Pre w k' := fun i j hi hij hag => h i j hi (by omega) hag
theorem Pre.prefix_ {w v : List Nat} (h : Pre (w ++ v) (w.length + v.length)) : Pre w w.length := by
  intro i j hi hij hag
  have e : ∀ t, t < w.length → at_ (w ++ v) t = at_ w t := fun t ht => by simp [at_, List.getD_eq_getElem?_getD, List.getElem?_append_left ht]
  have := h i j hi (by omega) (fun t ht => by rw [e t (by omega), e (i + t) (by omega)]; exact hag t ht)
  rwa [e j (by omega), e (i + j) hij] at this

theorem Neck.pre {w : List Nat} (h : Neck w) : Pre w w.length := fun i j hi hij hag => by
  have a := h i j (by omega) (by omega) (fun t ht => by rw [Nat.mod_eq_of_lt (by omega)]; exact hag t ht)
  rwa [Nat.mod_eq_of_lt hij] at a

theorem Neck.dvd {w : List Nat} {p : Nat} (h : Neck w) (hl : LeastPer w w.length p) : w.length % p = 0 := by
  have h1 := hl.pos
  have h2 := hl.le
  have hpre := h.pre
  rcases Nat.eq_or_lt_of_le hl.le with e | hlt
  · rw [← e]; exact Nat.mod_self p
  have turn : ∀ j, j < w.length → ∀ t, t ≤ j → at_ w t = at_ w ((p + t) % w.length) := by
    intro j
    induction j with
    | zero =>
      intro _ t ht
      obtain rfl : t = 0 := by omega
      rw [Nat.mod_eq_of_lt (by omega)]
      exact hl.per 0 (by omega)
    | succ j ih =>
      intro hj t ht
      rcases Nat.lt_or_ge t (j + 1) with hlt2 | hge
      · exact ih (by omega) t (by omega)
      obtain rfl : t = j + 1 := by omega
      by_cases hc : p + (j + 1) < w.length
      · rw [Nat.mod_eq_of_lt hc]
        exact hl.per _ hc
      · have a := h p (j + 1) hlt hj (fun t ht => ih (by omega) t (by omega))
        have e : (p + (j + 1)) % w.length = p + (j + 1) - w.length := by
          rw [Nat.mod_eq_sub_mod (by omega), Nat.mod_eq_of_lt (by omega)]
        have b := hpre (w.length - p) (p + (j + 1) - w.length) (by omega) (by omega) (fun t ht => by
          have c := ih (by omega) (w.length - p + t) (by omega)
          rw [show p + (w.length - p + t) = w.length + t by omega, Nat.add_mod_left, Nat.mod_eq_of_lt (by omega)] at c
          exact c.symm)
        rw [show w.length - p + (p + (j + 1) - w.length) = j + 1 by omega] at b
        rw [e] at a ⊢
        omega
  have hn : 0 < w.length := by omega
  have many : ∀ q t, at_ w ((q * p + t) % w.length) = at_ w (t % w.length) := by
    intro q
    induction q with
    | zero => intro t; simp
    | succ q ih =>
      intro t
      rw [show (q + 1) * p + t = q * p + (p + t) by rw [Nat.succ_mul]; omega, ih]
      have := turn (t % w.length) (Nat.mod_lt _ hn) (t % w.length) (Nat.le_refl _)
      rw [this, Nat.add_mod_mod]
  rcases Nat.eq_zero_or_pos (w.length % p) with h0 | hr
  · exact h0
  · exfalso
    have hrp := Nat.mod_lt w.length (show p > 0 by omega)
    refine hl.least (w.length % p) hr hrp (fun t ht => ?_)
    have a := many (w.length / p) (w.length % p + t)
    have b := Nat.div_add_mod w.length p
    rw [show w.length / p * p + (w.length % p + t) = w.length + t by rw [Nat.mul_comm]; omega, Nat.add_mod_left, Nat.mod_eq_of_lt (show t < w.length by omega), Nat.mod_eq_of_lt ht] at a
    exact a

theorem neck_of {w : List Nat} {p : Nat} (hpre : Pre w w.length) (hl : LeastPer w w.length p) (hd : w.length % p = 0) : Neck w := by
  intro i j hi hj hag
  have h1 := hl.pos
  have h2 := hl.le
  have red : ∀ t, t < w.length → at_ w t = at_ w (t % p) := by
    intro t
    induction t using Nat.strongRecOn with
    | _ t ih =>
      intro ht
      rcases Nat.lt_or_ge t p with h | h
      · rw [Nat.mod_eq_of_lt h]
      · have a := hl.per (t - p) (by omega)
        rw [show p + (t - p) = t by omega] at a
        rw [← a, ih (t - p) (by omega) (by omega), Nat.mod_eq_sub_mod h]
  have redm : ∀ s, at_ w (s % w.length) = at_ w (s % p) := fun s => by
    rw [red _ (Nat.mod_lt _ (by omega)), Nat.mod_mod_of_dvd _ (Nat.dvd_of_mod_eq_zero hd)]
  by_cases hr : i % p = 0
  · rw [redm, Nat.add_mod, hr, Nat.zero_add, Nat.mod_mod, ← red j hj]
    exact Nat.le_refl _
  · have hrp := Nat.mod_lt i (show p > 0 by omega)
    have tw : ∀ t, i % p + t < w.length → at_ w ((i + t) % w.length) = at_ w (i % p + t) := fun t ht => by
      rw [redm, red _ ht, Nat.mod_add_mod]
    by_cases hc : i % p + j < w.length
    · rw [tw j hc]
      exact hpre (i % p) j (by omega) hc (fun t ht => by rw [← tw t (by omega)]; exact hag t ht)
    · exfalso
      refine hl.least (i % p) (by omega) hrp (fun t ht => ?_)
      rw [← tw t ht]
      exact hag t (by omega)

theorem neck_iff {w : List Nat} {p : Nat} (hpre : Pre w w.length) (hl : LeastPer w w.length p) : Neck w ↔ w.length % p = 0 := ⟨fun h => h.dvd hl, neck_of hpre hl⟩
open Classical in
/-- all words that go on from w with the letters that are left (s of them), in the order of the dictionary, that are necklaces -/
noncomputable def refN : Nat → List Nat → List Nat → List (List Nat)
  | 0, w, _ => if Neck w then [w] else []
  | s + 1, w, rest => (List.range rest.length).flatMap fun i => if rest.getD i 0 = 0 then [] else refN s (w ++ [i]) (rest.set i (rest.getD i 0 - 1))

def first (w : List Nat) (p : Nat) : Nat := if p ≤ w.length then at_ w (w.length - p) else 0
/-- the program's search -/
def progN : Nat → List Nat → Nat → List Nat → List (List Nat)
  | 0, w, p, _ => if w.length % p = 0 then [w] else []
  | s + 1, w, p, rest => (List.range rest.length).flatMap fun c =>
      if c < first w p then [] else if rest.getD c 0 = 0 then [] else
        progN s (w ++ [c]) (if w.length < p ∨ c ≠ first w p then w.length + 1 else p) (rest.set c (rest.getD c 0 - 1))

theorem flatMap_nil {α β : Type} (l : List α) (f : α → List β) (h : ∀ x, x ∈ l → f x = []) : l.flatMap f = [] := by
  induction l with
  | nil => rfl
  | cons a l ih => rw [List.flatMap_cons, h a (by simp), ih (fun x hx => h x (by simp [hx])), List.append_nil]
theorem flatMap_congr' {α β : Type} (l : List α) (f g : α → List β) (h : ∀ x, x ∈ l → f x = g x) : l.flatMap f = l.flatMap g := by
  induction l with
  | nil => rfl
  | cons a l ih => rw [List.flatMap_cons, List.flatMap_cons, h a (by simp), ih (fun x hx => h x (by simp [hx]))]

theorem refN_nil : ∀ (s : Nat) (w rest : List Nat), ¬ Pre w w.length → refN s w rest = [] := by
  intro s
  induction s with
  | zero =>
    intro w rest h
    simp only [refN]
    rw [if_neg (fun hn => h hn.pre)]
  | succ s ih =>
    intro w rest h
    simp only [refN]
    refine flatMap_nil _ _ fun c _ => ?_
    split
    · rfl
    · refine ih _ _ fun hp => h ?_
      rw [List.length_append] at hp
      exact Pre.prefix_ hp

def Good (w : List Nat) (p : Nat) : Prop := (w = [] ∧ p = 1) ∨ (Pre w w.length ∧ LeastPer w w.length p)

theorem good_next {w : List Nat} {p c : Nat} (h : Good w p) (hc : first w p ≤ c) : Good (w ++ [c]) (if w.length < p ∨ c ≠ first w p then w.length + 1 else p) := by
  right
  rw [List.length_append, List.length_singleton]
  rcases h with ⟨rfl, rfl⟩ | ⟨hp, hl⟩
  · simp only [List.length_nil, List.nil_append]
    rw [if_pos (Or.inl (by omega))]
    exact ⟨pre_one c, least_one c⟩
  · have h2 := hl.le
    unfold first at hc ⊢
    rw [if_pos hl.le] at hc ⊢
    refine ⟨pre_snoc hp hl hc, ?_⟩
    by_cases e : c = at_ w (w.length - p)
    · rw [if_neg (by omega), e]
      exact least_same hl
    · rw [if_pos (Or.inr e)]
      exact least_new hp hl (by omega)

/-- what the search finds: all necklaces, in order -/
theorem prog_ref : ∀ (s : Nat) (w : List Nat) (p : Nat) (rest : List Nat), Good w p → (s = 0 → w ≠ []) → progN s w p rest = refN s w rest := by
  intro s
  induction s with
  | zero =>
    intro w p rest h hne
    simp only [progN, refN]
    rcases h with ⟨rfl, rfl⟩ | ⟨hp, hl⟩
    · exact absurd rfl (hne rfl)
    · by_cases hd : w.length % p = 0
      · rw [if_pos hd, if_pos (neck_of hp hl hd)]
      · rw [if_neg hd, if_neg (fun hn => hd (hn.dvd hl))]
  | succ s ih =>
    intro w p rest h _
    simp only [progN, refN]
    refine flatMap_congr' _ _ _ fun c _ => ?_
    by_cases hz : rest.getD c 0 = 0
    · rw [if_pos hz, if_pos hz, ite_self]
    by_cases hc : c < first w p
    · rw [if_pos hc]
      rcases h with ⟨rfl, rfl⟩ | ⟨hp, hl⟩
      · simp [first] at hc
      · unfold first at hc
        rw [if_pos hl.le] at hc
        rw [if_neg hz, refN_nil]
        rw [List.length_append, List.length_singleton]
        exact not_pre_snoc hl hc
    · rw [if_neg hc, if_neg hz, if_neg hz]
      exact ih _ _ _ (good_next h (by omega)) (fun _ => by simp)

theorem refN_ext : ∀ (s : Nat) (w rest y : List Nat), y ∈ refN s w rest → ∃ v, y = w ++ v := by
  intro s
  induction s with
  | zero =>
    intro w rest y h
    simp only [refN] at h
    split at h
    · exact ⟨[], by simpa using h⟩
    · cases h
  | succ s ih =>
    intro w rest y h
    simp only [refN, List.mem_flatMap] at h
    obtain ⟨c, _, hc⟩ := h
    split at hc
    · cases hc
    · obtain ⟨v, rfl⟩ := ih _ _ _ hc
      exact ⟨c :: v, by simp⟩
end Go.Proofs.Ytpommkpgiogjgaa.Fkm
