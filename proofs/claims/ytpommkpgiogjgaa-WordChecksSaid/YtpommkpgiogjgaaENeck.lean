/- word.Necklaces returns what the letter-by-letter search finds, or the first error: for any list of numbers. -/
import Derived.Test.YtpommkpgiogjgaaEExt2
import Derived.WalkSpells
set_option linter.unusedVariables false
set_option linter.unusedSimpArgs false
namespace Go.Proofs.Ytpommkpgiogjgaa.X
open Go.RowKit Go.Proofs.YtpommkpgiogjgaaW.PrintWords Go.Proofs.YtpommkpgiogjgaaW.PrintLast Go.Proofs.YtpommkpgiogjgaaW.PrintMore
attribute [local go_sem] max2_int min2_int max_two min_two

/-- the number of letters, up to 61 -/
def sumN (l : List Int) : Int := l.foldl (fun n k => if 61 < n + (if 61 < k then 61 else k) then 61 else n + (if 61 < k then 61 else k)) 0
def word_Necklaces.f (l0 : List Int) : Option (List ByteArray × Int) :=
  if 26 < l0.length then some ([], 4)
  else if (l0.any fun k => decide (k < 0)) = true then some ([], 3)
  else if sumN l0 = 0 then some ([], 13)
  else if 60 < sumN l0 then some ([], 16)
  else if (extN (sumN l0).toNat [] 1 (l0.map Int.toNat) ([], false)).2 = true then some ([], 4)
  else some ((extN (sumN l0).toNat [] 1 (l0.map Int.toNat) ([], false)).1.map toB, 0)

theorem extend_said (n : Nat) (hn : n ≤ 60) : ∀ s, ExtSaid n s := by
  intro s
  induction s with
  | zero =>
    intro W R p O full vr vw vo B g w0 w hW hp hp2 hR hR2 hW2 hO h hB hBw
    cases full with
    | true =>
      refine (extend_full h).mono ?_
      rintro e w' ⟨rfl, rfl⟩
      exact ⟨rfl, vw, vo, by simpa [extN] using h, hB⟩
    | false => exact extend_end hn (by omega) hp hp2 hO h hB hBw
  | succ s ih => exact extend_step hn ih
/-- the sums on the way -/
def sumT (l : List Int) (i : Nat) : Int := sumN (l.take i)
theorem sumT_succ (l : List Int) (i : Nat) (h : i < l.length) : sumT l (i + 1) = (if 61 < sumT l i + (if 61 < l.getD i 0 then 61 else l.getD i 0) then 61 else sumT l i + (if 61 < l.getD i 0 then 61 else l.getD i 0)) := by
  unfold sumT sumN
  rw [List.take_succ_eq_append_getElem h, List.foldl_append, List.getD_eq_getElem?_getD, List.getElem?_eq_getElem h]
  rfl
theorem sumT_range (l : List Int) (hl : ∀ k ∈ l, 0 ≤ k) : ∀ i, i ≤ l.length → 0 ≤ sumT l i ∧ sumT l i ≤ 61 := by
  intro i
  induction i with
  | zero => intro _; simp [sumT, sumN]
  | succ i ih =>
    intro h
    have a := ih (by omega)
    have b : 0 ≤ l.getD i 0 := by
      rw [List.getD_eq_getElem?_getD, List.getElem?_eq_getElem (show i < l.length by omega)]
      exact hl _ (List.getElem_mem _)
    rw [sumT_succ l i (by omega)]
    split <;> split <;> omega
theorem sumT_small (l : List Int) (hl : ∀ k ∈ l, 0 ≤ k) (h : sumN l ≤ 60) : ∀ k ∈ l, k ≤ 60 := by
  have key : ∀ d i, i + d = l.length → sumT l i ≤ 60 ∧ ∀ j, i ≤ j → j < l.length → l.getD j 0 ≤ 60 := by
    intro d
    induction d with
    | zero =>
      intro i hi
      refine ⟨?_, fun j h1 h2 => by omega⟩
      rw [show i = l.length by omega]
      unfold sumT
      rw [List.take_length]
      exact h
    | succ d ih =>
      intro i hi
      obtain ⟨a, b⟩ := ih (i + 1) (by omega)
      rw [sumT_succ l i (by omega)] at a
      have s := sumT_range l hl i (by omega)
      have k0 : 0 ≤ l.getD i 0 := by
        rw [List.getD_eq_getElem?_getD, List.getElem?_eq_getElem (show i < l.length by omega)]
        exact hl _ (List.getElem_mem _)
      have c : sumT l i ≤ 60 ∧ l.getD i 0 ≤ 60 := by
        split at a <;> split at a <;> omega
      refine ⟨c.1, fun j h1 h2 => ?_⟩
      rcases Nat.eq_or_lt_of_le h1 with e | e
      · subst e; exact c.2
      · exact b j e h2
  intro k hk
  obtain ⟨j, hj, rfl⟩ := List.mem_iff_getElem.1 hk
  have := (key l.length 0 (by omega)).2 j (Nat.zero_le _) hj
  rwa [List.getD_eq_getElem?_getD, List.getElem?_eq_getElem hj] at this
theorem cR_toNat (l : List Int) (hl : ∀ k ∈ l, 0 ≤ k) : cR (l.map Int.toNat) = l.map (Value.int .i64) := by
  unfold cR
  rw [List.map_map]
  apply List.map_congr_left
  intro k hk
  have := hl k hk
  simp only [Function.comp]
  rw [show ((k.toNat : Nat) : Int) = k by omega]
theorem sumT_all (l : List Int) : sumT l l.length = sumN l := by unfold sumT; rw [List.take_length]
set_option maxHeartbeats 4000000 in
set_option maxRecDepth 100000 in
theorem clone_own (A0 : Option Addr) (c0 : Nat) (l0 : List Int) (w : World) (h1 : 1 ≤ l0.length) (h2 : l0.length ≤ 26) (hr0 : Kd.C (Kd.int .i64) w A0 l0.length l0) (hc0 : l0.length ≤ c0) :
    Calls Try.prog 38 #[.slice A0 l0.length c0] w fun e w' => ∃ v, e = .returned v ∧ w'.ownsRow w.heap.size 3 1 v l0.length (l0.map (Value.int .i64)) ∧ Below w.heap.size w w' := by
  obtain ⟨i0, hi, hz0, hz1, hz2⟩ := info_parts info3
  obtain ⟨hl, hm, hrd⟩ := Kd.reads_of_C (enc := Value.int .i64) (d := (0 : Int)) (h1 := fun _ => rfl) hr0
  obtain ⟨ad, rfl, hcell⟩ := hrd (by omega)
  have hnil := fun W => Lib.run_eql_slice_nil (P := Try.prog) W 39 3 (some ad) l0.length c0 0 0 Try.underlying39
  have hne : ∀ j u, (l0.map (Value.int .i64))[j]? = some u → w.cell? (ad.add j) = some u := by
    intro j u hu
    have hj : j < l0.length := by have := (List.getElem?_eq_some_iff.1 hu).1; simpa using this
    rw [hcell j hj]
    rw [List.getElem?_map, List.getElem?_eq_getElem hj] at hu
    rw [List.getD_eq_getElem?_getD, List.getElem?_eq_getElem hj]
    exact hu
  have HN := Aside0.mk hne
  have HI := Aside0.mk hi
  clear hne hcell hrd hr0 hi hl
  go_enter Try.func38, Try.ntmps38
  go_wp2_with (at_builtin; refine wpList_append_own _ rfl (.tmp 5) (.tmp 6) 39 rfl w.heap.size 3 i0 (.int .i64 0) 1 8 Try.underlying39 HI.out hz0 hz1 hz2 rfl (by decide) (.slice (some ⟨w.heap.size, 0, none⟩) 0 0) 0 [] rfl (World.ownsRow_made w #[] 0 (Nat.le_refl _) (by decide) rfl) ad l0.length c0 (l0.map (Value.int .i64)) rfl ?h1 ?h2 ?h3 ?h4 ?h5 ?h6 ?_)
  case h1 => simp
  case h2 =>
    intro j u hu
    exact pw_cell_below ((Below.refl _ _).alloc (Nat.le_refl _) _) (HN.out j u hu)
  case h3 =>
    intro u hu
    obtain ⟨x, _, rfl⟩ := List.mem_map.1 hu
    rfl
  case h4 => unfold maxLen; omega
  case h5 => omega
  case h6 => simp
  intro v' w2 hown hgrow _
  have hB : Below w.heap.size w w2 := ((Below.refl w.heap.size w).alloc (Nat.le_refl _) _).grown hgrow (by simp) (fun k hk => by simp [Value.ownBlock] at hk; omega)
  have HO := Aside0.mk hown
  have HB := Aside0.mk hB
  clear hown hgrow hB
  go_wp2
  go_ret
  exact ⟨v', rfl, HO.out, HB.out⟩
set_option maxHeartbeats 8000000 in
set_option maxRecDepth 100000 in
theorem word_Necklaces.calls (A0 : Option Addr) (c0 : Nat) (l0 : List Int) (r1 : List ByteArray) (r2 : Int) (w : World) (hr0 : Kd.C (Kd.int .i64) w A0 l0.length l0) (hc0 : l0.length ≤ c0) (h : word_Necklaces.f l0 = some (r1, r2)) :
    Calls Try.prog 17 #[.slice A0 l0.length c0] w fun e w' => ∃ v0_ : Value, e = .returned (.tuple #[v0_, .int .i64 r2]) ∧ Kd.R Kd.string 9 w' w.heap.size (fun _ => True) v0_ r1 ∧ Below w.heap.size w w' := by
  unfold word_Necklaces.f at h
  have HR := Aside0.mk hr0
  have HC := Aside0.mk hc0
  have HD := Aside0.mk (Kd.reads_of_C (enc := Value.int .i64) (d := (0 : Int)) (h1 := fun _ => rfl) hr0)
  clear hr0 hc0
  by_cases g1 : 26 < l0.length
  · rw [if_pos g1] at h
    obtain ⟨rfl, rfl⟩ : [] = r1 ∧ (4 : Int) = r2 := by simpa using h
    have b1 : decide (26 < l0.length) = true := decide_eq_true g1
    have b2 : decide (26 < (l0.length : Int)) = true := decide_eq_true (by omega)
    clear g1
    go_enter Try.func17, Try.ntmps17
    go_wp2
    go_ret2
    exact ⟨_, rfl, Kd.R_nil _ _ _ _ _, Below.refl _ _⟩
  rw [if_neg g1] at h
  have b1 : decide (26 < l0.length) = false := decide_eq_false g1
  have b2 : decide (26 < (l0.length : Int)) = false := decide_eq_false (by omega)
  have hm : l0.length ≤ 26 := by omega
  clear g1
  have HH := Aside0.mk h
  clear h
  go_enter Try.func17, Try.ntmps17
  go_wp2
  go_loop [15] (fun v => ∃ i : Nat, i ≤ l0.length ∧ v = .int .i64 i ∧ Aside0 (∀ j, j < i → 0 ≤ l0.getD j 0)) (fun v => (26 - intOf v).toNat)
  case atStart => exact ⟨0, by omega, rfl, ⟨fun j hj => by omega⟩⟩
  case round =>
    obtain ⟨i, hi, rfl, hneg⟩ := hrel
    by_cases hlt : i < l0.length
    · obtain ⟨ad, hA, hc⟩ := HD.out.at_ (i : Int) (by omega) (by omega)
      subst hA
      unfold rdOf at hc
      simp only [Int.toNat_natCast] at hc
      by_cases hk : l0.getD i 0 < 0
      · have bk : decide (l0.getD i 0 < 0) = true := decide_eq_true hk
        have hany : (l0.any fun k => decide (k < 0)) = true := by
          rw [List.any_eq_true]
          refine ⟨l0.getD i 0, ?_, bk⟩
          rw [List.getD_eq_getElem?_getD, List.getElem?_eq_getElem hlt]
          exact List.getElem_mem _
        have h := HH.out
        rw [if_pos hany] at h
        obtain ⟨rfl, rfl⟩ : [] = r1 ∧ (3 : Int) = r2 := by simpa using h
        clear hk h hany
        generalize l0.getD i 0 = k at *
        go_wp2
        go_ret2
        exact ⟨_, rfl, Kd.R_nil _ _ _ _ _, Below.refl _ _⟩
      · have bk : decide (l0.getD i 0 < 0) = false := decide_eq_false hk
        have hneg2 : ∀ j, j < i + 1 → 0 ≤ l0.getD j 0 := by
          intro j hj
          rcases Nat.lt_or_ge j i with h | h
          · exact hneg.out j h
          · obtain rfl : j = i := by omega
            omega
        have HN2 := Aside0.mk hneg2
        clear hk hneg2 hneg
        generalize l0.getD i 0 = k at *
        go_wp2
        go_round
        case rel => exact ⟨i + 1, by omega, by go_num, HN2⟩
        case measure => simp [intOf]; omega
    · obtain rfl : i = l0.length := by omega
      have hge : ∀ k ∈ l0, 0 ≤ k := by
        intro k hk
        obtain ⟨j, hj, rfl⟩ := List.mem_iff_getElem.1 hk
        have := hneg.out j hj
        rwa [List.getD_eq_getElem?_getD, List.getElem?_eq_getElem hj] at this
      have hany : ¬ (l0.any fun k => decide (k < 0)) = true := by
        rw [List.any_eq_true]
        rintro ⟨k, hk, hd⟩
        have := hge k hk
        have := of_decide_eq_true hd
        omega
      have h := HH.out
      rw [if_neg hany] at h
      have HH2 := Aside0.mk h
      have HG := Aside0.mk hge
      clear HH h hany hge hneg
      go_wp2
      go_loop [4, 24] (fun v4 v => ∃ i : Nat, i ≤ l0.length ∧ v = .int .i64 i ∧ v4 = .int .i64 (sumT l0 i)) (fun _ v => (26 - intOf v).toNat)
      case atStart => exact ⟨0, by omega, rfl, rfl⟩
      case round =>
        obtain ⟨i, hi, rfl, rfl⟩ := hrel
        obtain ⟨s1, s2⟩ := sumT_range l0 HG.out i hi
        by_cases hlt : i < l0.length
        · obtain ⟨ad, hA, hc⟩ := HD.out.at_ (i : Int) (by omega) (by omega)
          subst hA
          unfold rdOf at hc
          simp only [Int.toNat_natCast] at hc
          have hk0 : 0 ≤ l0.getD i 0 := by
            rw [List.getD_eq_getElem?_getD, List.getElem?_eq_getElem hlt]
            exact HG.out _ (List.getElem_mem _)
          have hsu := (sumT_succ l0 i hlt).symm
          generalize hks : l0.getD i 0 = k at *
          clear hks
          have HSU := Aside0.mk hsu
          clear hsu
          go_wp2
          go_round
          case rel => exact ⟨i + 1, by omega, by go_num, by rw [HSU.out]⟩
          case measure => simp [intOf]; omega
        · obtain rfl : i = l0.length := by omega
          have hsa := sumT_all l0
          have h := HH2.out
          rw [← hsa] at h
          have HSA := Aside0.mk hsa
          have HH3 := Aside0.mk h
          clear h hsa HH2
          generalize hnn : sumT l0 l0.length = n at *
          have HNN := Aside0.mk hnn
          clear hnn
          by_cases z0 : n = 0
          · have h := HH3.out
            rw [if_pos z0] at h
            obtain ⟨rfl, rfl⟩ : [] = r1 ∧ (13 : Int) = r2 := by simpa using h
            subst z0
            clear h HH3
            go_wp2
            go_ret2
            exact ⟨_, rfl, Kd.R_nil _ _ _ _ _, Below.refl _ _⟩
          have h := HH3.out
          rw [if_neg z0] at h
          have bz : (n == 0) = false := beq_eq_false_iff_ne.2 z0
          by_cases z1 : 60 < n
          · rw [if_pos z1] at h
            obtain ⟨rfl, rfl⟩ : [] = r1 ∧ (16 : Int) = r2 := by simpa using h
            have b1 : decide (60 < n) = true := decide_eq_true z1
            clear h HH3 z0 z1
            go_wp2
            go_ret2
            exact ⟨_, rfl, Kd.R_nil _ _ _ _ _, Below.refl _ _⟩
          rw [if_neg z1] at h
          have b1' : decide (60 < n) = false := decide_eq_false z1
          have HH4 := Aside0.mk h
          have hn0 : 0 ≤ n := s1
          have hn1 : n ≤ 60 := by omega
          have hlen : 1 ≤ l0.length := by
            rcases Nat.eq_zero_or_pos l0.length with h0 | h0
            · exfalso
              apply z0
              rw [← HNN.out, h0]
              rfl
            · exact h0
          clear h HH3 z0 z1 hlt
          obtain ⟨nn, rfl⟩ := Int.eq_ofNat_of_zero_le hn0
          go_wp2_with (go_at_call 38; (with_reducible refine (clone_own A0 c0 l0 _ hlen hm HR.out HC.out).mono ?_); rintro e w1 ⟨v1, rfl, hown, hB1⟩; obtain ⟨Av, cv, ev⟩ := own_slice hown; subst ev; have HO := Aside0.mk hown; have HB1 := Aside0.mk hB1; clear hown hB1)
          have hsm : ∀ k ∈ l0, k ≤ 60 := sumT_small l0 HG.out (by rw [← HSA.out]; exact hn1)
          have hM : Mk w.heap.size w1.heap.size (l0.map Int.toNat) [] [] false (.slice Av l0.length cv) (.slice none 0 0) (.slice none 0 0) (w1.alloc (.cells #[.slice Av l0.length cv, .slice none 0 0, .slice none 0 0, .bool false] 83)) :=
            ⟨HB1.out.size, heap_alloc_new w1 _, by rw [List.length_map, cR_toNat l0 HG.out]; exact HO.out.alloc _, World.ownsRow_nil _ _ _ _, World.ownsRow_nil _ _ _ _⟩
          have HM := Aside0.mk hM
          have HSM := Aside0.mk hsm
          clear hM hsm
          refine (extend_said nn (by omega) nn [] (l0.map Int.toNat) 1 [] false (.slice Av l0.length cv) (.slice none 0 0) (.slice none 0 0) w.heap.size w1.heap.size w _ ?i1 (by omega) (by omega) ?i2 ?i3 ?i4 (by simp) HM.out ?i5 ?i6).mono ?_
          case i1 => simp
          case i2 => rw [List.length_map]; exact hm
          case i3 =>
            intro x hx
            obtain ⟨k, hk, rfl⟩ := List.mem_map.1 hx
            have a := HSM.out k hk
            have b := HG.out k hk
            omega
          case i4 => intro x hx; cases hx
          case i5 => exact HB1.out.alloc HB1.out.size _
          case i6 => have := HB1.out.size; simp; omega
          rintro e w3 ⟨rfl, vw3, vo3, hM3, hB3⟩
          rw [Int.toNat_natCast] at HH4
          generalize hst : extN nn [] 1 (l0.map Int.toNat) ([], false) = st at *
          clear hst
          obtain ⟨k0, k1, k2, k3⟩ := hM3.cells
          have HM3 := Aside0.mk hM3
          have HB3 := Aside0.mk hB3
          clear hM3 hB3 k0 k1
          obtain ⟨O, full⟩ := st
          cases full with
          | true =>
            have h := HH4.out
            rw [if_pos rfl] at h
            obtain ⟨rfl, rfl⟩ : [] = r1 ∧ (4 : Int) = r2 := by simpa using h
            clear h HH4
            go_wp2
            go_ret2
            exact ⟨_, rfl, Kd.R_nil _ _ _ _ _, HB3.out⟩
          | false =>
            have h := HH4.out
            rw [if_neg (by simp)] at h
            obtain ⟨rfl, rfl⟩ : O.map toB = r1 ∧ (0 : Int) = r2 := by simpa using h
            clear h HH4
            go_wp2
            go_ret2
            refine ⟨_, rfl, ⟨fun _ _ => trivial, encs Value.string (O.map toB), ?_, Kd.reps_scalar _⟩, HB3.out⟩
            have := HM3.out.out
            rw [List.length_map]
            show w3.ownsRow w.heap.size 9 1 vo3 O.length (encs Value.string (O.map toB))
            simpa [encs, cO, Function.comp_def] using this
end Go.Proofs.Ytpommkpgiogjgaa.X
