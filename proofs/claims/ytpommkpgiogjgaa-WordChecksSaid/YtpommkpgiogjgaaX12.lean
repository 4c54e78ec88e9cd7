-- Printed by a program of this session's (the kit's print, told of functions proved by hand). Not trusted: Lean checks it.
import Derived.Test.YtpommkpgiogjgaaX0
import Derived.Test.YtpommkpgiogjgaaX1
import Derived.Test.YtpommkpgiogjgaaX2
import Derived.Test.YtpommkpgiogjgaaX3
import Derived.Test.YtpommkpgiogjgaaX4
import Derived.Test.YtpommkpgiogjgaaX5
import Derived.Test.YtpommkpgiogjgaaX6
import Derived.Test.YtpommkpgiogjgaaX11
import Derived.Test.YtpommkpgiogjgaaEBal
import Derived.Test.YtpommkpgiogjgaaERev
import Derived.Test.YtpommkpgiogjgaaESame
namespace Go.Proofs.Ytpommkpgiogjgaa.X
open Go.RowKit Go.Proofs.YtpommkpgiogjgaaW.PrintWords Go.Proofs.YtpommkpgiogjgaaW.PrintLast Go.Proofs.YtpommkpgiogjgaaW.PrintMore
attribute [local go_sem] max2_int min2_int max_two min_two max_three min_three max_four min_four   -- for this text's walks alone
set_option linter.unusedVariables false
set_option linter.unusedSimpArgs false

attribute [local go_sem high] eqA28
/-! ### schismalaw34_WordChecks: function 10 -/
mutual
def schismalaw34_WordChecks.j0 : Nat → ByteArray → Int → Bool → Option (Bool)
  | 0, _, _, _ => none
  | k + 1, x0, x1, x34 => if x34 = true then ((schismalaw34_known.f k).bind fun t325 => (some t325)) else ((schismalaw34_check.f k x0).bind fun t326 => ((word_Counts.f k x0).bind fun bt327 => ((word_Rotate.f k x0 x1).bind fun bt331 => ((word_Reverse.f k x0).bind fun bt333 => ((word_Check.f k x0).bind fun t335 => (if t335 = t326 then (if bt327.2 = t326 then (if bt331.2 = t326 then (schismalaw34_WordChecks.j1 k x0 x1 t326 bt327.1 bt331.1 bt333.1 (bt333.2 != t326)) else (schismalaw34_WordChecks.j1 k x0 x1 t326 bt327.1 bt331.1 bt333.1 true)) else (schismalaw34_WordChecks.j1 k x0 x1 t326 bt327.1 bt331.1 bt333.1 true)) else (schismalaw34_WordChecks.j1 k x0 x1 t326 bt327.1 bt331.1 bt333.1 true)))))))
def schismalaw34_WordChecks.j1 : Nat → ByteArray → Int → Int → List Int → ByteArray → ByteArray → Bool → Option (Bool)
  | 0, _, _, _, _, _, _, _ => none
  | k + 1, x0, x1, x5, x6, x8, x10, x72 => if x72 = true then (some false) else (if x5 = 0 then (schismalaw34_WordChecks.l0 k x0 x1 x6 x8 x10 (⟨#[]⟩ : ByteArray) 0) else ((word_Least.f k x0).bind fun bt341 => ((word_Same.f k x0 x0).bind fun bt344 => ((word_Primitive.f k x0).bind fun bt347 => ((word_Balanced.f k x0).bind fun bt350 => ((word_Conjugate.f k x0).bind fun bt357 => (if (x6.length : Int) = 0 then (if x8.toList = ([] : List UInt8) then (if x10.toList = ([] : List UInt8) then (if bt341.1.toList = ([] : List UInt8) then (if bt341.2.1 = 0 then (if bt341.2.2 = x5 then (if bt344.1 = 0 then (if bt344.2.1 = true then (some false) else (if bt344.2.2 = x5 then (if bt347.1.toList = ([] : List UInt8) then (if bt347.2.1 = 0 then (if bt347.2.2 = x5 then (if bt350.1 = true then (some false) else (if (bt350.2.1 == 0 && (bt350.2.2.1 == 0 && (bt350.2.2.2.1 == 0 && (bt350.2.2.2.2.1.toList == ([] : List UInt8))))) = true then (if bt350.2.2.2.2.2 = x5 then (if bt357.1 = true then (some false) else (some (bt357.2 == x5))) else (some false)) else (some false))) else (some false)) else (some false)) else (some false)) else (some false))) else (some false)) else (some false)) else (some false)) else (some false)) else (some false)) else (some false)) else (some false))))))))
def schismalaw34_WordChecks.l0 : Nat → ByteArray → Int → List Int → ByteArray → ByteArray → ByteArray → Int → Option (Bool)
  | 0, _, _, _, _, _, _, _ => none
  | k + 1, x0, x1, x6, x8, x10, x12, x13 => if x13 < (x0.size : Int) then (if 0 ≤ x13 then (if x13 ≤ (wrap64 (x13 + 1)) then (if (wrap64 (x13 + 1)) ≤ (x0.size : Int) then (if (x0.extract (x13 : Int).toNat ((wrap64 (x13 + 1)) : Int).toNat).size + x12.size ≤ 9223372036854775807 then (schismalaw34_WordChecks.l0 k x0 x1 x6 x8 x10 ((x0.extract (x13 : Int).toNat ((wrap64 (x13 + 1)) : Int).toNat) ++ x12) (wrap64 (x13 + 1))) else (none)) else (none)) else (none)) else (none)) else ((schismalaw34_counts.f k x0).bind fun t336 => ((schismaref06_EqualRows.f k x6 t336).bind fun t339 => (if t339 = true then (if (x0.size : Int) = 0 then (none) else ((schismalaw34_rotate.f x0 (Int.tmod x1 (x0.size : Int))).bind fun t340 => (if x8.toList = t340.toList then (some (x10.toList == x12.toList)) else (some false)))) else (some false))))
end
def schismalaw34_WordChecks.f (k : Nat) (a0 : ByteArray) (a1 : Int) : Option (Bool) := (schismalaw34_known.f k).bind fun t324 => (if t324 = true then (schismalaw34_WordChecks.j0 k a0 a1 (decide ((a0.size : Int) > 64))) else (schismalaw34_WordChecks.j0 k a0 a1 true))
theorem schismalaw34_WordChecks.mono_l : ∀ k, (∀ y0 y1 y2, LeO (schismalaw34_WordChecks.j0 k y0 y1 y2) (schismalaw34_WordChecks.j0 (k + 1) y0 y1 y2)) ∧ (∀ y0 y1 y2 y3 y4 y5 y6, LeO (schismalaw34_WordChecks.j1 k y0 y1 y2 y3 y4 y5 y6) (schismalaw34_WordChecks.j1 (k + 1) y0 y1 y2 y3 y4 y5 y6)) ∧ (∀ y0 y1 y2 y3 y4 y5 y6, LeO (schismalaw34_WordChecks.l0 k y0 y1 y2 y3 y4 y5 y6) (schismalaw34_WordChecks.l0 (k + 1) y0 y1 y2 y3 y4 y5 y6))
  | 0 => ⟨fun _ _ _ r h => by simp [schismalaw34_WordChecks.j0] at h, fun _ _ _ _ _ _ _ r h => by simp [schismalaw34_WordChecks.j1] at h, fun _ _ _ _ _ _ _ r h => by simp [schismalaw34_WordChecks.l0] at h⟩
  | k + 1 => by
    obtain ⟨ih0, ih1, ih2⟩ := schismalaw34_WordChecks.mono_l k
    refine ⟨?_, ?_, ?_⟩
    · intro y0 y1 y2
      unfold schismalaw34_WordChecks.j0
      repeat' first
      | (with_reducible exact ih0 _ _ _)
      | (with_reducible exact ih1 _ _ _ _ _ _ _)
      | (with_reducible exact ih2 _ _ _ _ _ _ _)
      | (with_reducible exact schismalaw34_check.mono _ _)
      | (with_reducible exact schismalaw34_counts.mono _ _)
      | (with_reducible exact schismalaw34_known.mono _)
      | (with_reducible exact schismaref06_EqualRows.mono _ _ _)
      | (with_reducible exact word_Balanced.mono _ _)
      | (with_reducible exact word_Check.mono _ _)
      | (with_reducible exact word_Conjugate.mono _ _)
      | (with_reducible exact word_Counts.mono _ _)
      | (with_reducible exact word_Least.mono _ _)
      | (with_reducible exact word_Primitive.mono _ _)
      | (with_reducible exact word_Reverse.mono _ _)
      | (with_reducible exact word_Rotate.mono _ _ _)
      | (with_reducible exact word_Same.mono _ _ _)
      | (with_reducible exact LeO.refl _)
      | (with_reducible exact LeO.none _)
      | (with_reducible refine LeO.ite ?_ ?_)
      | (with_reducible refine LeO.bind ?_ (fun _ => ?_))
      | exact ih0 _ _ _
      | exact ih1 _ _ _ _ _ _ _
      | exact ih2 _ _ _ _ _ _ _
      | exact schismalaw34_check.mono _ _
      | exact schismalaw34_counts.mono _ _
      | exact schismalaw34_known.mono _
      | exact schismaref06_EqualRows.mono _ _ _
      | exact word_Balanced.mono _ _
      | exact word_Check.mono _ _
      | exact word_Conjugate.mono _ _
      | exact word_Counts.mono _ _
      | exact word_Least.mono _ _
      | exact word_Primitive.mono _ _
      | exact word_Reverse.mono _ _
      | exact word_Rotate.mono _ _ _
      | exact word_Same.mono _ _ _
      | exact LeO.none _
      | refine LeO.ite ?_ ?_
      | refine LeO.bind ?_ (fun _ => ?_)
    · intro y0 y1 y2 y3 y4 y5 y6
      unfold schismalaw34_WordChecks.j1
      repeat' first
      | (with_reducible exact ih0 _ _ _)
      | (with_reducible exact ih1 _ _ _ _ _ _ _)
      | (with_reducible exact ih2 _ _ _ _ _ _ _)
      | (with_reducible exact schismalaw34_check.mono _ _)
      | (with_reducible exact schismalaw34_counts.mono _ _)
      | (with_reducible exact schismalaw34_known.mono _)
      | (with_reducible exact schismaref06_EqualRows.mono _ _ _)
      | (with_reducible exact word_Balanced.mono _ _)
      | (with_reducible exact word_Check.mono _ _)
      | (with_reducible exact word_Conjugate.mono _ _)
      | (with_reducible exact word_Counts.mono _ _)
      | (with_reducible exact word_Least.mono _ _)
      | (with_reducible exact word_Primitive.mono _ _)
      | (with_reducible exact word_Reverse.mono _ _)
      | (with_reducible exact word_Rotate.mono _ _ _)
      | (with_reducible exact word_Same.mono _ _ _)
      | (with_reducible exact LeO.refl _)
      | (with_reducible exact LeO.none _)
      | (with_reducible refine LeO.ite ?_ ?_)
      | (with_reducible refine LeO.bind ?_ (fun _ => ?_))
      | exact ih0 _ _ _
      | exact ih1 _ _ _ _ _ _ _
      | exact ih2 _ _ _ _ _ _ _
      | exact schismalaw34_check.mono _ _
      | exact schismalaw34_counts.mono _ _
      | exact schismalaw34_known.mono _
      | exact schismaref06_EqualRows.mono _ _ _
      | exact word_Balanced.mono _ _
      | exact word_Check.mono _ _
      | exact word_Conjugate.mono _ _
      | exact word_Counts.mono _ _
      | exact word_Least.mono _ _
      | exact word_Primitive.mono _ _
      | exact word_Reverse.mono _ _
      | exact word_Rotate.mono _ _ _
      | exact word_Same.mono _ _ _
      | exact LeO.none _
      | refine LeO.ite ?_ ?_
      | refine LeO.bind ?_ (fun _ => ?_)
    · intro y0 y1 y2 y3 y4 y5 y6
      unfold schismalaw34_WordChecks.l0
      repeat' first
      | (with_reducible exact ih0 _ _ _)
      | (with_reducible exact ih1 _ _ _ _ _ _ _)
      | (with_reducible exact ih2 _ _ _ _ _ _ _)
      | (with_reducible exact schismalaw34_check.mono _ _)
      | (with_reducible exact schismalaw34_counts.mono _ _)
      | (with_reducible exact schismalaw34_known.mono _)
      | (with_reducible exact schismaref06_EqualRows.mono _ _ _)
      | (with_reducible exact word_Balanced.mono _ _)
      | (with_reducible exact word_Check.mono _ _)
      | (with_reducible exact word_Conjugate.mono _ _)
      | (with_reducible exact word_Counts.mono _ _)
      | (with_reducible exact word_Least.mono _ _)
      | (with_reducible exact word_Primitive.mono _ _)
      | (with_reducible exact word_Reverse.mono _ _)
      | (with_reducible exact word_Rotate.mono _ _ _)
      | (with_reducible exact word_Same.mono _ _ _)
      | (with_reducible exact LeO.refl _)
      | (with_reducible exact LeO.none _)
      | (with_reducible refine LeO.ite ?_ ?_)
      | (with_reducible refine LeO.bind ?_ (fun _ => ?_))
      | exact ih0 _ _ _
      | exact ih1 _ _ _ _ _ _ _
      | exact ih2 _ _ _ _ _ _ _
      | exact schismalaw34_check.mono _ _
      | exact schismalaw34_counts.mono _ _
      | exact schismalaw34_known.mono _
      | exact schismaref06_EqualRows.mono _ _ _
      | exact word_Balanced.mono _ _
      | exact word_Check.mono _ _
      | exact word_Conjugate.mono _ _
      | exact word_Counts.mono _ _
      | exact word_Least.mono _ _
      | exact word_Primitive.mono _ _
      | exact word_Reverse.mono _ _
      | exact word_Rotate.mono _ _ _
      | exact word_Same.mono _ _ _
      | exact LeO.none _
      | refine LeO.ite ?_ ?_
      | refine LeO.bind ?_ (fun _ => ?_)
theorem schismalaw34_WordChecks.mono : ∀ a0 a1 k, LeO (schismalaw34_WordChecks.f k a0 a1) (schismalaw34_WordChecks.f (k + 1) a0 a1) := by
  intro a0 a1 k
  obtain ⟨ih0, ih1, ih2⟩ := schismalaw34_WordChecks.mono_l k
  unfold schismalaw34_WordChecks.f
  repeat' first
      | (with_reducible exact ih0 _ _ _)
      | (with_reducible exact ih1 _ _ _ _ _ _ _)
      | (with_reducible exact ih2 _ _ _ _ _ _ _)
      | (with_reducible exact schismalaw34_check.mono _ _)
      | (with_reducible exact schismalaw34_counts.mono _ _)
      | (with_reducible exact schismalaw34_known.mono _)
      | (with_reducible exact schismaref06_EqualRows.mono _ _ _)
      | (with_reducible exact word_Balanced.mono _ _)
      | (with_reducible exact word_Check.mono _ _)
      | (with_reducible exact word_Conjugate.mono _ _)
      | (with_reducible exact word_Counts.mono _ _)
      | (with_reducible exact word_Least.mono _ _)
      | (with_reducible exact word_Primitive.mono _ _)
      | (with_reducible exact word_Reverse.mono _ _)
      | (with_reducible exact word_Rotate.mono _ _ _)
      | (with_reducible exact word_Same.mono _ _ _)
      | (with_reducible exact LeO.refl _)
      | (with_reducible exact LeO.none _)
      | (with_reducible refine LeO.ite ?_ ?_)
      | (with_reducible refine LeO.bind ?_ (fun _ => ?_))
      | exact ih0 _ _ _
      | exact ih1 _ _ _ _ _ _ _
      | exact ih2 _ _ _ _ _ _ _
      | exact schismalaw34_check.mono _ _
      | exact schismalaw34_counts.mono _ _
      | exact schismalaw34_known.mono _
      | exact schismaref06_EqualRows.mono _ _ _
      | exact word_Balanced.mono _ _
      | exact word_Check.mono _ _
      | exact word_Conjugate.mono _ _
      | exact word_Counts.mono _ _
      | exact word_Least.mono _ _
      | exact word_Primitive.mono _ _
      | exact word_Reverse.mono _ _
      | exact word_Rotate.mono _ _ _
      | exact word_Same.mono _ _ _
      | exact LeO.none _
      | refine LeO.ite ?_ ?_
      | refine LeO.bind ?_ (fun _ => ?_)
set_option maxHeartbeats 8000000 in
set_option maxRecDepth 100000 in
theorem schismalaw34_WordChecks.calls (k : Nat) (a0 : ByteArray) (a1 : Int) (r : Bool) (w : World) (hr0 : r = true) (h : schismalaw34_WordChecks.f k a0 a1 = some r) :
    Calls Try.prog 10 #[.string a0, .int .i64 a1] w fun e w' => e = .returned (.bool r) ∧ Below w.heap.size w w' := by
  have hr := Aside0.mk hr0
  clear hr0
  have hu28 := Try.underlying28
  have HB := Aside0.mk (Below.refl w.heap.size w)
  have H : ((schismalaw34_known.f k).bind fun t324 => (if t324 = true then (schismalaw34_WordChecks.j0 k a0 a1 (decide ((a0.size : Int) > 64))) else (schismalaw34_WordChecks.j0 k a0 a1 true))) = some r := h
  clear h
  have HC3 := Aside0.mk H
  clear H
  go_enter Try.func10, Try.ntmps10
  go_upto_region 1 with (fail)
  go_cut [34] (fun v34 wc => ∃ (kq : Nat) (x34_2 : Bool), v34 = .bool x34_2 ∧ Aside0 (schismalaw34_WordChecks.j0 kq a0 a1 x34_2 = some r) ∧ Aside0 (kq ≤ k) ∧ Aside0 (Below w.heap.size w wc))
  case first =>
    have H := HC3.out
    clear HC3
    replace H := Option.bind_eq_some_iff.mp H
    obtain ⟨t324, A40, H⟩ := H
    replace H : (if t324 = true then (schismalaw34_WordChecks.j0 k a0 a1 (decide ((a0.size : Int) > 64))) else (schismalaw34_WordChecks.j0 k a0 a1 true)) = some r := H
    have A4 := Aside0.mk A40
    clear A40
    by_cases c5 : t324 = true
    · subst c5
      have H1 : (schismalaw34_WordChecks.j0 k a0 a1 (decide ((a0.size : Int) > 64))) = some r := by rw [if_pos rfl] at H; exact H
      clear H
      have H := H1
      clear H1
      have H' := Aside0.mk H
      clear H
      go_wp2_with (first | ((with_reducible refine gate_callee (f := 11) rfl ?_); refine goesL_ (some 28) rfl rfl Try.func11 (by kernel_rfl) rfl #[] rfl (by (try simp only [List.map_toArray, List.map_cons, List.map_nil]); first | done | rfl | (simp only [List.length_drop, List.length_take]; rfl)) ?_; (with_reducible refine (schismalaw34_known.calls k  true _ A4.out).mono ?_); rintro e w6 ⟨rfl, hb⟩; refine ⟨_, rfl, ?_⟩; have n0_ := Aside0.mk (below_step (by repeat (first | (with_reducible first | exact HB.out | apply below_alloc | apply pw_below_drewN | apply below_drew1) | exact HB.out)) hb); clear HB; have HB := n0_; clear n0_; (try clear hb); (try clear hb2); (try clear hk); (try clear hi)))
      go_meet
      case rel => exact ⟨_, (decide ((a0.size : Int) > 64)), (by first | rfl | (simp; done) | (simp [*]; done)), H', ⟨by first | omega | exact Nat.le_refl _⟩, ⟨by repeat (first | (with_reducible first | exact HB.out | apply below_alloc | apply pw_below_drewN | apply below_drew1) | exact HB.out)⟩⟩
    · replace c5 := Bool.eq_false_iff.mpr c5
      subst c5
      have H1 : (schismalaw34_WordChecks.j0 k a0 a1 true) = some r := by rw [if_neg (show ¬ (false = true) by decide)] at H; exact H
      clear H
      have H := H1
      clear H1
      have H' := Aside0.mk H
      clear H
      go_wp2_with (first | ((with_reducible refine gate_callee (f := 11) rfl ?_); refine goesL_ (some 28) rfl rfl Try.func11 (by kernel_rfl) rfl #[] rfl (by (try simp only [List.map_toArray, List.map_cons, List.map_nil]); first | done | rfl | (simp only [List.length_drop, List.length_take]; rfl)) ?_; (with_reducible refine (schismalaw34_known.calls k  false _ A4.out).mono ?_); rintro e w7 ⟨rfl, hb⟩; refine ⟨_, rfl, ?_⟩; have n0_ := Aside0.mk (below_step (by repeat (first | (with_reducible first | exact HB.out | apply below_alloc | apply pw_below_drewN | apply below_drew1) | exact HB.out)) hb); clear HB; have HB := n0_; clear n0_; (try clear hb); (try clear hb2); (try clear hk); (try clear hi)))
      go_meet
      case rel => exact ⟨_, (true), (by first | rfl | (simp; done) | (simp [*]; done)), H', ⟨by first | omega | exact Nat.le_refl _⟩, ⟨by repeat (first | (with_reducible first | exact HB.out | apply below_alloc | apply pw_below_drewN | apply below_drew1) | exact HB.out)⟩⟩
  case rest =>
    clear HC3
    try clear c1
    try clear p2
    try clear c5
    obtain ⟨kq, x34_2, rfl, HA, HJ2, HB⟩ := hcut
    cases kq with
    | zero => exact absurd HA.out (by simp [schismalaw34_WordChecks.j0])
    | succ kj2 =>
      have H := HA.out
      clear HA
      simp only [schismalaw34_WordChecks.j0] at H
      by_cases c8 : x34_2 = true
      · subst c8
        have H1 : ((schismalaw34_known.f kj2).bind fun t325 => (some t325)) = some r := by rw [if_pos rfl] at H; exact H
        clear H
        have H := H1
        clear H1
        replace H := Option.bind_eq_some_iff.mp H
        obtain ⟨t325, A90, H⟩ := H
        replace H : (some t325) = some r := H
        have A9 := Aside0.mk A90
        clear A90
        first
          | exact absurd ((Option.some.inj H).trans hr.out) Bool.false_ne_true
          | (obtain rfl := Option.some.inj H
             go_wp2_with (first | ((with_reducible refine gate_callee (f := 11) rfl ?_); refine goesL_ (some 35) rfl rfl Try.func11 (by kernel_rfl) rfl #[] rfl (by (try simp only [List.map_toArray, List.map_cons, List.map_nil]); first | done | rfl | (simp only [List.length_drop, List.length_take]; rfl)) ?_; (with_reducible refine (schismalaw34_known.calls kj2  t325 _ A9.out).mono ?_); rintro e w10 ⟨rfl, hb⟩; refine ⟨_, rfl, ?_⟩; have n0_ := Aside0.mk (below_step (by repeat (first | (with_reducible first | exact HB.out | apply below_alloc | apply pw_below_drewN | apply below_drew1) | exact HB.out)) hb); clear HB; have HB := n0_; clear n0_; (try clear hb); (try clear hb2); (try clear hk); (try clear hi)))
             go_ret
             exact ⟨by first | rfl | (simp [errW_none, errW_some] <;> rfl) | (simp [*, errW_none, errW_some] <;> rfl), by repeat (first | (with_reducible first | exact HB.out | apply below_alloc | apply pw_below_drewN | apply below_drew1) | exact HB.out)⟩)
      · replace c8 := Bool.eq_false_iff.mpr c8
        subst c8
        have H1 : ((schismalaw34_check.f kj2 a0).bind fun t326 => ((word_Counts.f kj2 a0).bind fun bt327 => ((word_Rotate.f kj2 a0 a1).bind fun bt331 => ((word_Reverse.f kj2 a0).bind fun bt333 => ((word_Check.f kj2 a0).bind fun t335 => (if t335 = t326 then (if bt327.2 = t326 then (if bt331.2 = t326 then (schismalaw34_WordChecks.j1 kj2 a0 a1 t326 bt327.1 bt331.1 bt333.1 (bt333.2 != t326)) else (schismalaw34_WordChecks.j1 kj2 a0 a1 t326 bt327.1 bt331.1 bt333.1 true)) else (schismalaw34_WordChecks.j1 kj2 a0 a1 t326 bt327.1 bt331.1 bt333.1 true)) else (schismalaw34_WordChecks.j1 kj2 a0 a1 t326 bt327.1 bt331.1 bt333.1 true))))))) = some r := by rw [if_neg (show ¬ (false = true) by decide)] at H; exact H
        clear H
        have H := H1
        clear H1
        replace H := Option.bind_eq_some_iff.mp H
        obtain ⟨t326, A110, H⟩ := H
        replace H : ((word_Counts.f kj2 a0).bind fun bt327 => ((word_Rotate.f kj2 a0 a1).bind fun bt331 => ((word_Reverse.f kj2 a0).bind fun bt333 => ((word_Check.f kj2 a0).bind fun t335 => (if t335 = t326 then (if bt327.2 = t326 then (if bt331.2 = t326 then (schismalaw34_WordChecks.j1 kj2 a0 a1 t326 bt327.1 bt331.1 bt333.1 (bt333.2 != t326)) else (schismalaw34_WordChecks.j1 kj2 a0 a1 t326 bt327.1 bt331.1 bt333.1 true)) else (schismalaw34_WordChecks.j1 kj2 a0 a1 t326 bt327.1 bt331.1 bt333.1 true)) else (schismalaw34_WordChecks.j1 kj2 a0 a1 t326 bt327.1 bt331.1 bt333.1 true)))))) = some r := H
        have A11 := Aside0.mk A110
        clear A110
        replace H := Option.bind_eq_some_iff.mp H
        obtain ⟨⟨t327, t328⟩, A120, H⟩ := H
        replace H : ((word_Rotate.f kj2 a0 a1).bind fun bt331 => ((word_Reverse.f kj2 a0).bind fun bt333 => ((word_Check.f kj2 a0).bind fun t335 => (if t335 = t326 then (if t328 = t326 then (if bt331.2 = t326 then (schismalaw34_WordChecks.j1 kj2 a0 a1 t326 t327 bt331.1 bt333.1 (bt333.2 != t326)) else (schismalaw34_WordChecks.j1 kj2 a0 a1 t326 t327 bt331.1 bt333.1 true)) else (schismalaw34_WordChecks.j1 kj2 a0 a1 t326 t327 bt331.1 bt333.1 true)) else (schismalaw34_WordChecks.j1 kj2 a0 a1 t326 t327 bt331.1 bt333.1 true))))) = some r := H
        have A12 := Aside0.mk A120
        clear A120
        replace H := Option.bind_eq_some_iff.mp H
        obtain ⟨⟨t331, t332⟩, A130, H⟩ := H
        replace H : ((word_Reverse.f kj2 a0).bind fun bt333 => ((word_Check.f kj2 a0).bind fun t335 => (if t335 = t326 then (if t328 = t326 then (if t332 = t326 then (schismalaw34_WordChecks.j1 kj2 a0 a1 t326 t327 t331 bt333.1 (bt333.2 != t326)) else (schismalaw34_WordChecks.j1 kj2 a0 a1 t326 t327 t331 bt333.1 true)) else (schismalaw34_WordChecks.j1 kj2 a0 a1 t326 t327 t331 bt333.1 true)) else (schismalaw34_WordChecks.j1 kj2 a0 a1 t326 t327 t331 bt333.1 true)))) = some r := H
        have A13 := Aside0.mk A130
        clear A130
        replace H := Option.bind_eq_some_iff.mp H
        obtain ⟨⟨t333, t334⟩, A140, H⟩ := H
        replace H : ((word_Check.f kj2 a0).bind fun t335 => (if t335 = t326 then (if t328 = t326 then (if t332 = t326 then (schismalaw34_WordChecks.j1 kj2 a0 a1 t326 t327 t331 t333 (t334 != t326)) else (schismalaw34_WordChecks.j1 kj2 a0 a1 t326 t327 t331 t333 true)) else (schismalaw34_WordChecks.j1 kj2 a0 a1 t326 t327 t331 t333 true)) else (schismalaw34_WordChecks.j1 kj2 a0 a1 t326 t327 t331 t333 true))) = some r := H
        have A14 := Aside0.mk A140
        clear A140
        have HC15 := Aside0.mk H
        clear H
        go_upto_region 7 with (first | ((with_reducible refine gate_callee (f := 29) rfl ?_); refine goesL_ (some 37) rfl rfl Try.func29 (by kernel_rfl) rfl #[.string a0] rfl (by (try simp only [List.map_toArray, List.map_cons, List.map_nil]); first | done | rfl | (simp only [List.length_drop, List.length_take]; rfl)) ?_; (with_reducible refine (schismalaw34_check.calls kj2 a0 t326 _ A11.out).mono ?_); rintro e w' ⟨rfl, ⟨nd, rfl⟩⟩; refine ⟨_, rfl, ?_⟩) | ((with_reducible refine gate_callee (f := 26) rfl ?_); refine goesL_ (some 40) rfl rfl Try.func26 (by kernel_rfl) rfl #[.string a0] rfl (by (try simp only [List.map_toArray, List.map_cons, List.map_nil]); first | done | rfl | (simp only [List.length_drop, List.length_take]; rfl)) ?_; (with_reducible refine (word_Counts.calls kj2 a0 t327 t328 _ A12.out).mono ?_); rintro e w16 ⟨v329, rfl, ho0, hb⟩; refine ⟨_, rfl, ?_⟩; have n0_ := Aside0.mk (Kd.R_lower ho0 (below_size (by repeat (first | (with_reducible first | exact HB.out | apply below_alloc | apply pw_below_drewN | apply below_drew1) | exact HB.out)))); have n1_ := Aside0.mk (below_step (by repeat (first | (with_reducible first | exact HB.out | apply below_alloc | apply pw_below_drewN | apply below_drew1) | exact HB.out)) hb); clear HB; have HO330 := n0_; have HB := n1_; clear n0_ n1_; (try clear hb); (try clear hb2); (try clear hk); (try clear hi); (try clear ho0)) | ((with_reducible refine gate_callee (f := 25) rfl ?_); refine goesL_ (some 46) rfl rfl Try.func25 (by kernel_rfl) rfl #[.string a0, .int .i64 a1] rfl (by (try simp only [List.map_toArray, List.map_cons, List.map_nil]); first | done | rfl | (simp only [List.length_drop, List.length_take]; rfl)) ?_; (with_reducible refine (word_Rotate.calls kj2 a0 a1 t331 t332 _ A13.out).mono ?_); rintro e w' ⟨rfl, ⟨nd, rfl⟩⟩; refine ⟨_, rfl, ?_⟩) | ((with_reducible refine gate_callee (f := 30) rfl ?_); refine goesL_ (some 51) rfl rfl Try.func30 (by kernel_rfl) rfl #[.string a0] rfl (by (try simp only [List.map_toArray, List.map_cons, List.map_nil]); first | done | rfl | (simp only [List.length_drop, List.length_take]; rfl)) ?_; (with_reducible refine (word_Reverse.calls kj2 a0 t333 t334 _ A14.out).mono ?_); rintro e w17 ⟨rfl, hb⟩; refine ⟨_, rfl, ?_⟩; have n0_ := Aside0.mk (Kd.R_below (by (with_reducible repeat (first | apply Kd.R_alloc | apply Kd.R_drewN | apply Kd.R_drew)); exact HO330.out) hb); have n1_ := Aside0.mk (below_step (by repeat (first | (with_reducible first | exact HB.out | apply below_alloc | apply pw_below_drewN | apply below_drew1) | exact HB.out)) hb); clear HO330; clear HB; have HO330 := n0_; have HB := n1_; clear n0_ n1_; (try clear hb); (try clear hb2); (try clear hk); (try clear hi)))
        (try simp only [Act.put, List.setIfInBounds_toArray, List.set_cons_zero, List.set_cons_succ])
        go_cut [72] (fun v72 wc => ∃ (kq : Nat) (x72_14 : Bool), v72 = .bool x72_14 ∧ Aside0 (schismalaw34_WordChecks.j1 kq a0 a1 t326 t327 t331 t333 x72_14 = some r) ∧ Aside0 (kq ≤ kj2) ∧ Aside0 (Kd.R (Kd.int .i64) 3 wc w.heap.size (fun _ => True) v329 t327) ∧ Aside0 (Below w.heap.size w wc))
        case first =>
          have H := HC15.out
          clear HC15
          replace H := Option.bind_eq_some_iff.mp H
          obtain ⟨t335, A180, H⟩ := H
          replace H : (if t335 = t326 then (if t328 = t326 then (if t332 = t326 then (schismalaw34_WordChecks.j1 kj2 a0 a1 t326 t327 t331 t333 (t334 != t326)) else (schismalaw34_WordChecks.j1 kj2 a0 a1 t326 t327 t331 t333 true)) else (schismalaw34_WordChecks.j1 kj2 a0 a1 t326 t327 t331 t333 true)) else (schismalaw34_WordChecks.j1 kj2 a0 a1 t326 t327 t331 t333 true)) = some r := H
          have A18 := Aside0.mk A180
          clear A180
          by_cases c19 : t335 = t326
          · rw [if_pos c19] at H
            have c19b0 : (t335 == t326) = true := beq_iff_eq.mpr c19
            have c19b1 : (t335 != t326) = false := bne_eq_false_iff_eq.mpr c19
            clear c19
            (first | rw [c19b0] | (simp only [i64_w, i32_w]; rw [c19b0]) | skip)
            by_cases c20 : t328 = t326
            · rw [if_pos c20] at H
              have c20b0 : (t328 == t326) = true := beq_iff_eq.mpr c20
              have c20b1 : (t328 != t326) = false := bne_eq_false_iff_eq.mpr c20
              clear c20
              by_cases c21 : t332 = t326
              · rw [if_pos c21] at H
                have c21b0 : (t332 == t326) = true := beq_iff_eq.mpr c21
                have c21b1 : (t332 != t326) = false := bne_eq_false_iff_eq.mpr c21
                clear c21
                have H' := Aside0.mk H
                clear H
                go_wp2_with (first | ((with_reducible refine gate_callee (f := 31) rfl ?_); refine goesL_ (some 55) rfl rfl Try.func31 (by kernel_rfl) rfl #[.string a0] rfl (by (try simp only [List.map_toArray, List.map_cons, List.map_nil]); first | done | rfl | (simp only [List.length_drop, List.length_take]; rfl)) ?_; (with_reducible refine (word_Check.calls kj2 a0 t335 _ A18.out).mono ?_); rintro e w' ⟨rfl, ⟨nd, rfl⟩⟩; refine ⟨_, rfl, ?_⟩))
                go_meet
                case rel => exact ⟨_, ((t334 != t326)), (by first | rfl | (simp; done) | (simp [*]; done)), H', ⟨by have := HJ2.out; first | omega | exact Nat.le_refl _⟩, ⟨by (with_reducible repeat (first | apply Kd.R_alloc | apply Kd.R_drewN | apply Kd.R_drew)); exact HO330.out⟩, ⟨by repeat (first | (with_reducible first | exact HB.out | apply below_alloc | apply pw_below_drewN | apply below_drew1) | exact HB.out)⟩⟩
              · rw [if_neg c21] at H
                have c21b0 : (t332 == t326) = false := beq_eq_false_iff_ne.mpr c21
                have c21b1 : (t332 != t326) = true := bne_iff_ne.mpr c21
                have H' := Aside0.mk H
                clear H
                go_wp2_with (first | ((with_reducible refine gate_callee (f := 31) rfl ?_); refine goesL_ (some 55) rfl rfl Try.func31 (by kernel_rfl) rfl #[.string a0] rfl (by (try simp only [List.map_toArray, List.map_cons, List.map_nil]); first | done | rfl | (simp only [List.length_drop, List.length_take]; rfl)) ?_; (with_reducible refine (word_Check.calls kj2 a0 t335 _ A18.out).mono ?_); rintro e w' ⟨rfl, ⟨nd, rfl⟩⟩; refine ⟨_, rfl, ?_⟩))
                go_meet
                case rel => exact ⟨_, (true), (by first | rfl | (simp; done) | (simp [*]; done)), H', ⟨by have := HJ2.out; first | omega | exact Nat.le_refl _⟩, ⟨by (with_reducible repeat (first | apply Kd.R_alloc | apply Kd.R_drewN | apply Kd.R_drew)); exact HO330.out⟩, ⟨by repeat (first | (with_reducible first | exact HB.out | apply below_alloc | apply pw_below_drewN | apply below_drew1) | exact HB.out)⟩⟩
            · rw [if_neg c20] at H
              have c20b0 : (t328 == t326) = false := beq_eq_false_iff_ne.mpr c20
              have c20b1 : (t328 != t326) = true := bne_iff_ne.mpr c20
              have H' := Aside0.mk H
              clear H
              go_wp2_with (first | ((with_reducible refine gate_callee (f := 31) rfl ?_); refine goesL_ (some 55) rfl rfl Try.func31 (by kernel_rfl) rfl #[.string a0] rfl (by (try simp only [List.map_toArray, List.map_cons, List.map_nil]); first | done | rfl | (simp only [List.length_drop, List.length_take]; rfl)) ?_; (with_reducible refine (word_Check.calls kj2 a0 t335 _ A18.out).mono ?_); rintro e w' ⟨rfl, ⟨nd, rfl⟩⟩; refine ⟨_, rfl, ?_⟩))
              go_meet
              case rel => exact ⟨_, (true), (by first | rfl | (simp; done) | (simp [*]; done)), H', ⟨by have := HJ2.out; first | omega | exact Nat.le_refl _⟩, ⟨by (with_reducible repeat (first | apply Kd.R_alloc | apply Kd.R_drewN | apply Kd.R_drew)); exact HO330.out⟩, ⟨by repeat (first | (with_reducible first | exact HB.out | apply below_alloc | apply pw_below_drewN | apply below_drew1) | exact HB.out)⟩⟩
          · rw [if_neg c19] at H
            have c19b0 : (t335 == t326) = false := beq_eq_false_iff_ne.mpr c19
            have c19b1 : (t335 != t326) = true := bne_iff_ne.mpr c19
            (first | rw [c19b0] | (simp only [i64_w, i32_w]; rw [c19b0]) | skip)
            have H' := Aside0.mk H
            clear H
            go_wp2_with (first | ((with_reducible refine gate_callee (f := 31) rfl ?_); refine goesL_ (some 55) rfl rfl Try.func31 (by kernel_rfl) rfl #[.string a0] rfl (by (try simp only [List.map_toArray, List.map_cons, List.map_nil]); first | done | rfl | (simp only [List.length_drop, List.length_take]; rfl)) ?_; (with_reducible refine (word_Check.calls kj2 a0 t335 _ A18.out).mono ?_); rintro e w' ⟨rfl, ⟨nd, rfl⟩⟩; refine ⟨_, rfl, ?_⟩))
            go_meet
            case rel => exact ⟨_, (true), (by first | rfl | (simp; done) | (simp [*]; done)), H', ⟨by have := HJ2.out; first | omega | exact Nat.le_refl _⟩, ⟨by (with_reducible repeat (first | apply Kd.R_alloc | apply Kd.R_drewN | apply Kd.R_drew)); exact HO330.out⟩, ⟨by repeat (first | (with_reducible first | exact HB.out | apply below_alloc | apply pw_below_drewN | apply below_drew1) | exact HB.out)⟩⟩
        case rest =>
          clear HC15
          try clear c1
          try clear c2
          try clear p2
          try clear c3
          try clear c5
          try clear c8
          try clear c10
          try clear c11
          try clear c19
          try clear c19b0
          try clear c19b1
          try clear c20
          try clear c20b0
          try clear c20b1
          try clear c21
          try clear c21b0
          try clear c21b1
          try clear p2
          obtain ⟨kq, x72_14, rfl, HA, HJ14, HO_6, HB⟩ := hcut
          cases kq with
          | zero => exact absurd HA.out (by simp [schismalaw34_WordChecks.j1])
          | succ kj14 =>
            have H := HA.out
            clear HA
            simp only [schismalaw34_WordChecks.j1] at H
            by_cases c22 : x72_14 = true
            · subst c22
              have H1 : (some false) = some r := by rw [if_pos rfl] at H; exact H
              clear H
              have H := H1
              clear H1
              exact absurd ((Option.some.inj H).trans hr.out) Bool.false_ne_true
            · replace c22 := Bool.eq_false_iff.mpr c22
              subst c22
              have H1 : (if t326 = 0 then (schismalaw34_WordChecks.l0 kj14 a0 a1 t327 t331 t333 (⟨#[]⟩ : ByteArray) 0) else ((word_Least.f kj14 a0).bind fun bt341 => ((word_Same.f kj14 a0 a0).bind fun bt344 => ((word_Primitive.f kj14 a0).bind fun bt347 => ((word_Balanced.f kj14 a0).bind fun bt350 => ((word_Conjugate.f kj14 a0).bind fun bt357 => (if (t327.length : Int) = 0 then (if t331.toList = ([] : List UInt8) then (if t333.toList = ([] : List UInt8) then (if bt341.1.toList = ([] : List UInt8) then (if bt341.2.1 = 0 then (if bt341.2.2 = t326 then (if bt344.1 = 0 then (if bt344.2.1 = true then (some false) else (if bt344.2.2 = t326 then (if bt347.1.toList = ([] : List UInt8) then (if bt347.2.1 = 0 then (if bt347.2.2 = t326 then (if bt350.1 = true then (some false) else (if (bt350.2.1 == 0 && (bt350.2.2.1 == 0 && (bt350.2.2.2.1 == 0 && (bt350.2.2.2.2.1.toList == ([] : List UInt8))))) = true then (if bt350.2.2.2.2.2 = t326 then (if bt357.1 = true then (some false) else (some (bt357.2 == t326))) else (some false)) else (some false))) else (some false)) else (some false)) else (some false)) else (some false))) else (some false)) else (some false)) else (some false)) else (some false)) else (some false)) else (some false)) else (some false)))))))) = some r := by rw [if_neg (show ¬ (false = true) by decide)] at H; exact H
              clear H
              have H := H1
              clear H1
              by_cases c23 : t326 = 0
              · rw [if_pos c23] at H
                have c23b0 : (t326 == 0) = true := beq_iff_eq.mpr c23
                have c23b1 : (t326 != 0) = false := bne_eq_false_iff_eq.mpr c23
                clear c23
                have H' := Aside0.mk H
                clear H
                go_wp2
                go_loopg [12, 13] kj14 (fun kq v12 v13 w' => ∃ (x12_3 : ByteArray) (x13_3 : Int), v12 = .string x12_3 ∧ v13 = .int .i64 x13_3 ∧ Aside0 (schismalaw34_WordChecks.l0 kq a0 a1 t327 t331 t333 x12_3 x13_3 = some r) ∧ Aside0 (kq ≤ kj14) ∧ Aside0 (Kd.R (Kd.int .i64) 3 w' w.heap.size (fun _ => True) v329 t327) ∧ Aside0 (Below w.heap.size w w'))
                case atStart => exact ⟨((⟨#[]⟩ : ByteArray)), (0), (by first | rfl | (simp; done) | (simp [*]; done)), (by first | rfl | (simp; done) | (simp [*]; done)), H', ⟨Nat.le_refl _⟩, ⟨by (with_reducible repeat (first | apply Kd.R_alloc | apply Kd.R_drewN | apply Kd.R_drew)); exact HO_6.out⟩, ⟨by repeat (first | (with_reducible first | exact HB.out | apply below_alloc | apply pw_below_drewN | apply below_drew1) | exact HB.out)⟩⟩
                case round =>
                  clear H'
                  try clear c1
                  try clear c2
                  try clear p2
                  try clear c3
                  try clear c5
                  try clear c8
                  try clear c10
                  try clear c11
                  try clear c19
                  try clear c19b0
                  try clear c19b1
                  try clear c20
                  try clear c20b0
                  try clear c20b1
                  try clear c21
                  try clear c21b0
                  try clear c21b1
                  try clear c22
                  try clear c23
                  try clear c23b0
                  try clear c23b1
                  try clear p2
                  obtain ⟨x12_3, x13_3, rfl, rfl, HA, HK3, HO_6, HB⟩ := hrel
                  cases gk with
                  | zero => exact absurd HA.out (by simp [schismalaw34_WordChecks.l0])
                  | succ k3 =>
                    have H := HA.out
                    clear HA
                    simp only [schismalaw34_WordChecks.l0] at H
                    by_cases c24 : x13_3 < (a0.size : Int)
                    · rw [if_pos c24] at H
                      have c24b0 : decide (x13_3 < (a0.size : Int)) = true := decide_eq_true c24
                      clear c24
                      by_cases c25 : 0 ≤ x13_3
                      · rw [if_pos c25] at H
                        have c25b0 := eq_true c25
                        have c25b1 : decide (0 ≤ x13_3) = true := decide_eq_true c25
                        clear c25
                        by_cases c26 : x13_3 ≤ (wrap64 (x13_3 + 1))
                        · rw [if_pos c26] at H
                          have c26b0 := eq_true c26
                          have c26b1 : decide (x13_3 ≤ (wrap64 (x13_3 + 1))) = true := decide_eq_true c26
                          by_cases c27 : (wrap64 (x13_3 + 1)) ≤ (a0.size : Int)
                          · rw [if_pos c27] at H
                            have c27b0 := eq_true c27
                            have c27b1 : decide ((wrap64 (x13_3 + 1)) ≤ (a0.size : Int)) = true := decide_eq_true c27
                            by_cases c28 : (a0.extract (x13_3 : Int).toNat ((wrap64 (x13_3 + 1)) : Int).toNat).size + x12_3.size ≤ 9223372036854775807
                            · rw [if_pos c28] at H
                              have c28b0 := eq_true c28
                              have c28b1 : decide ((a0.extract (x13_3 : Int).toNat ((wrap64 (x13_3 + 1)) : Int).toNat).size + x12_3.size ≤ 9223372036854775807) = true := decide_eq_true c28
                              try have c28b2 : (9223372036854775807 < (a0.extract (x13_3 : Int).toNat ((wrap64 (x13_3 + 1)) : Int).toNat).size + x12_3.size) = False := eq_false (Nat.not_lt.2 c28)
                              have H' := Aside0.mk H
                              clear H
                              go_wp2
                              go_roundg k3
                              case measure => have := HJ2.out; have := HJ14.out; have := HK3.out; omega
                              case rel => exact ⟨((a0.extract (x13_3 : Int).toNat ((wrap64 (x13_3 + 1)) : Int).toNat) ++ x12_3), (wrap64 (x13_3 + 1)), (by first | rfl | (simp; done) | (simp [*]; done)), (by first | rfl | (simp; done) | (simp [*]; done)), H', ⟨by have := HJ2.out; have := HJ14.out; have := HK3.out; omega⟩, ⟨by (with_reducible repeat (first | apply Kd.R_alloc | apply Kd.R_drewN | apply Kd.R_drew)); exact HO_6.out⟩, ⟨by repeat (first | (with_reducible first | exact HB.out | apply below_alloc | apply pw_below_drewN | apply below_drew1) | exact HB.out)⟩⟩
                            · rw [if_neg c28] at H
                              exact absurd H (by simp)
                          · rw [if_neg c27] at H
                            exact absurd H (by simp)
                        · rw [if_neg c26] at H
                          exact absurd H (by simp)
                      · rw [if_neg c25] at H
                        exact absurd H (by simp)
                    · rw [if_neg c24] at H
                      have c24b0 : decide (x13_3 < (a0.size : Int)) = false := decide_eq_false c24
                      clear c24
                      replace H := Option.bind_eq_some_iff.mp H
                      obtain ⟨t336, A290, H⟩ := H
                      replace H : ((schismaref06_EqualRows.f k3 t327 t336).bind fun t339 => (if t339 = true then (if (a0.size : Int) = 0 then (none) else ((schismalaw34_rotate.f a0 (Int.tmod a1 (a0.size : Int))).bind fun t340 => (if t331.toList = t340.toList then (some (t333.toList == x12_3.toList)) else (some false)))) else (some false))) = some r := H
                      have A29 := Aside0.mk A290
                      clear A290
                      replace H := Option.bind_eq_some_iff.mp H
                      obtain ⟨t339, A300, H⟩ := H
                      replace H : (if t339 = true then (if (a0.size : Int) = 0 then (none) else ((schismalaw34_rotate.f a0 (Int.tmod a1 (a0.size : Int))).bind fun t340 => (if t331.toList = t340.toList then (some (t333.toList == x12_3.toList)) else (some false)))) else (some false)) = some r := H
                      have A30 := Aside0.mk A300
                      clear A300
                      by_cases c31 : t339 = true
                      · subst c31
                        have H1 : (if (a0.size : Int) = 0 then (none) else ((schismalaw34_rotate.f a0 (Int.tmod a1 (a0.size : Int))).bind fun t340 => (if t331.toList = t340.toList then (some (t333.toList == x12_3.toList)) else (some false)))) = some r := by rw [if_pos rfl] at H; exact H
                        clear H
                        have H := H1
                        clear H1
                        by_cases c32 : (a0.size : Int) = 0
                        · rw [if_pos c32] at H
                          exact absurd H (by simp)
                        · rw [if_neg c32] at H
                          have c32b0 : ((a0.size : Int) == 0) = false := beq_eq_false_iff_ne.mpr c32
                          have c32b1 : ((a0.size : Int) != 0) = true := bne_iff_ne.mpr c32
                          replace H := Option.bind_eq_some_iff.mp H
                          obtain ⟨t340, A330, H⟩ := H
                          replace H : (if t331.toList = t340.toList then (some (t333.toList == x12_3.toList)) else (some false)) = some r := H
                          have A33 := Aside0.mk A330
                          clear A330
                          by_cases c34 : t331.toList = t340.toList
                          · rw [if_pos c34] at H
                            have c34b0 : (t331.toList == t340.toList) = true := beq_iff_eq.mpr c34
                            have c34b1 : (t331.toList != t340.toList) = false := bne_eq_false_iff_eq.mpr c34
                            clear c34
                            first
                              | exact absurd ((Option.some.inj H).trans hr.out) Bool.false_ne_true
                              | (obtain rfl := Option.some.inj H
                                 go_wp2_with (first | ((with_reducible refine gate_callee (f := 28) rfl ?_); refine goesL_ (some 90) rfl rfl Try.func28 (by kernel_rfl) rfl #[.string a0] rfl (by (try simp only [List.map_toArray, List.map_cons, List.map_nil]); first | done | rfl | (simp only [List.length_drop, List.length_take]; rfl)) ?_; (with_reducible refine (schismalaw34_counts.calls k3 a0 t336 _ A29.out).mono ?_); rintro e w35 ⟨v337, rfl, ho0, hb⟩; refine ⟨_, rfl, ?_⟩; have n0_ := Aside0.mk (Kd.R_elder' (by (with_reducible repeat (first | apply Kd.R_alloc | apply Kd.R_drewN | apply Kd.R_drew)); exact HO_6.out) (Kd.R_base ho0) hb); have n1_ := Aside0.mk (Kd.R_lower (Kd.R_new' ho0 (Kd.R_lt (by (with_reducible repeat (first | apply Kd.R_alloc | apply Kd.R_drewN | apply Kd.R_drew)); exact HO_6.out))) (below_size (by repeat (first | (with_reducible first | exact HB.out | apply below_alloc | apply pw_below_drewN | apply below_drew1) | exact HB.out)))); have n2_ := Aside0.mk (below_step (by repeat (first | (with_reducible first | exact HB.out | apply below_alloc | apply pw_below_drewN | apply below_drew1) | exact HB.out)) hb); clear HO_6; clear HB; have HO_6 := n0_; have HO338 := n1_; have HB := n2_; clear n0_ n1_ n2_; (try clear hb); (try clear hb2); (try clear hk); (try clear hi); (try clear ho0); obtain ⟨Ao36, co36, eo36⟩ := Kd.R_slice HO_6.out; subst eo36; obtain ⟨Ao37, co37, eo37⟩ := Kd.R_slice HO338.out; subst eo37) | ((with_reducible refine gate_callee (f := 32) rfl ?_); refine goesL_ (some 91) rfl rfl Try.func32 (by kernel_rfl) rfl #[.slice Ao36 t327.length co36, .slice Ao37 t336.length co37] rfl (by (try simp only [List.map_toArray, List.map_cons, List.map_nil]); first | done | rfl | (simp only [List.length_drop, List.length_take]; rfl)) ?_; (with_reducible refine (schismaref06_EqualRows.calls k3 _ _ t327 _ _ t336 true _ ?side1 ?side2 ?side3 ?side4 A30.out).mono ?_); (case side1 => repeat (first | exact (Kd.R_reads' HO_6.out).2.2 | (with_reducible refine Kd.C_alloc ?_ _) | (with_reducible refine Kd.C_drewN ?_ _) | (with_reducible refine Kd.C_drew ?_))); (case side2 => exact (Kd.R_reads' HO_6.out).2.1); (case side3 => repeat (first | exact (Kd.R_reads' HO338.out).2.2 | (with_reducible refine Kd.C_alloc ?_ _) | (with_reducible refine Kd.C_drewN ?_ _) | (with_reducible refine Kd.C_drew ?_))); (case side4 => exact (Kd.R_reads' HO338.out).2.1); rintro e w' ⟨rfl, ⟨nd, rfl⟩⟩; refine ⟨_, rfl, ?_⟩) | (go_at_call 24; (with_reducible refine (schismalaw34_rotate.calls a0 (Int.tmod a1 (a0.size : Int)) t340 _ A33.out).mono ?_); rintro e w' ⟨rfl, ⟨nd, rfl⟩⟩))
                                 go_ret
                                 exact ⟨by first | rfl | (simp [errW_none, errW_some] <;> rfl) | (simp [*, errW_none, errW_some] <;> rfl), by repeat (first | (with_reducible first | exact HB.out | apply below_alloc | apply pw_below_drewN | apply below_drew1) | exact HB.out)⟩)
                          · rw [if_neg c34] at H
                            have c34b0 : (t331.toList == t340.toList) = false := beq_eq_false_iff_ne.mpr c34
                            have c34b1 : (t331.toList != t340.toList) = true := bne_iff_ne.mpr c34
                            exact absurd ((Option.some.inj H).trans hr.out) Bool.false_ne_true
                      · replace c31 := Bool.eq_false_iff.mpr c31
                        subst c31
                        have H1 : (some false) = some r := by rw [if_neg (show ¬ (false = true) by decide)] at H; exact H
                        clear H
                        have H := H1
                        clear H1
                        exact absurd ((Option.some.inj H).trans hr.out) Bool.false_ne_true
              · rw [if_neg c23] at H
                have c23b0 : (t326 == 0) = false := beq_eq_false_iff_ne.mpr c23
                have c23b1 : (t326 != 0) = true := bne_iff_ne.mpr c23
                replace H := Option.bind_eq_some_iff.mp H
                obtain ⟨⟨t341, t342, t343⟩, A440, H⟩ := H
                replace H : ((word_Same.f kj14 a0 a0).bind fun bt344 => ((word_Primitive.f kj14 a0).bind fun bt347 => ((word_Balanced.f kj14 a0).bind fun bt350 => ((word_Conjugate.f kj14 a0).bind fun bt357 => (if (t327.length : Int) = 0 then (if t331.toList = ([] : List UInt8) then (if t333.toList = ([] : List UInt8) then (if t341.toList = ([] : List UInt8) then (if t342 = 0 then (if t343 = t326 then (if bt344.1 = 0 then (if bt344.2.1 = true then (some false) else (if bt344.2.2 = t326 then (if bt347.1.toList = ([] : List UInt8) then (if bt347.2.1 = 0 then (if bt347.2.2 = t326 then (if bt350.1 = true then (some false) else (if (bt350.2.1 == 0 && (bt350.2.2.1 == 0 && (bt350.2.2.2.1 == 0 && (bt350.2.2.2.2.1.toList == ([] : List UInt8))))) = true then (if bt350.2.2.2.2.2 = t326 then (if bt357.1 = true then (some false) else (some (bt357.2 == t326))) else (some false)) else (some false))) else (some false)) else (some false)) else (some false)) else (some false))) else (some false)) else (some false)) else (some false)) else (some false)) else (some false)) else (some false)) else (some false)))))) = some r := H
                have A44 := Aside0.mk A440
                clear A440
                replace H := Option.bind_eq_some_iff.mp H
                obtain ⟨⟨t344, t345, t346⟩, A450, H⟩ := H
                replace H : ((word_Primitive.f kj14 a0).bind fun bt347 => ((word_Balanced.f kj14 a0).bind fun bt350 => ((word_Conjugate.f kj14 a0).bind fun bt357 => (if (t327.length : Int) = 0 then (if t331.toList = ([] : List UInt8) then (if t333.toList = ([] : List UInt8) then (if t341.toList = ([] : List UInt8) then (if t342 = 0 then (if t343 = t326 then (if t344 = 0 then (if t345 = true then (some false) else (if t346 = t326 then (if bt347.1.toList = ([] : List UInt8) then (if bt347.2.1 = 0 then (if bt347.2.2 = t326 then (if bt350.1 = true then (some false) else (if (bt350.2.1 == 0 && (bt350.2.2.1 == 0 && (bt350.2.2.2.1 == 0 && (bt350.2.2.2.2.1.toList == ([] : List UInt8))))) = true then (if bt350.2.2.2.2.2 = t326 then (if bt357.1 = true then (some false) else (some (bt357.2 == t326))) else (some false)) else (some false))) else (some false)) else (some false)) else (some false)) else (some false))) else (some false)) else (some false)) else (some false)) else (some false)) else (some false)) else (some false)) else (some false))))) = some r := H
                have A45 := Aside0.mk A450
                clear A450
                replace H := Option.bind_eq_some_iff.mp H
                obtain ⟨⟨t347, t348, t349⟩, A460, H⟩ := H
                replace H : ((word_Balanced.f kj14 a0).bind fun bt350 => ((word_Conjugate.f kj14 a0).bind fun bt357 => (if (t327.length : Int) = 0 then (if t331.toList = ([] : List UInt8) then (if t333.toList = ([] : List UInt8) then (if t341.toList = ([] : List UInt8) then (if t342 = 0 then (if t343 = t326 then (if t344 = 0 then (if t345 = true then (some false) else (if t346 = t326 then (if t347.toList = ([] : List UInt8) then (if t348 = 0 then (if t349 = t326 then (if bt350.1 = true then (some false) else (if (bt350.2.1 == 0 && (bt350.2.2.1 == 0 && (bt350.2.2.2.1 == 0 && (bt350.2.2.2.2.1.toList == ([] : List UInt8))))) = true then (if bt350.2.2.2.2.2 = t326 then (if bt357.1 = true then (some false) else (some (bt357.2 == t326))) else (some false)) else (some false))) else (some false)) else (some false)) else (some false)) else (some false))) else (some false)) else (some false)) else (some false)) else (some false)) else (some false)) else (some false)) else (some false)))) = some r := H
                have A46 := Aside0.mk A460
                clear A460
                replace H := Option.bind_eq_some_iff.mp H
                obtain ⟨⟨t350, t351, t352, t353, t354, t355⟩, A470, H⟩ := H
                replace H : ((word_Conjugate.f kj14 a0).bind fun bt357 => (if (t327.length : Int) = 0 then (if t331.toList = ([] : List UInt8) then (if t333.toList = ([] : List UInt8) then (if t341.toList = ([] : List UInt8) then (if t342 = 0 then (if t343 = t326 then (if t344 = 0 then (if t345 = true then (some false) else (if t346 = t326 then (if t347.toList = ([] : List UInt8) then (if t348 = 0 then (if t349 = t326 then (if t350 = true then (some false) else (if (t351 == 0 && (t352 == 0 && (t353 == 0 && (t354.toList == ([] : List UInt8))))) = true then (if t355 = t326 then (if bt357.1 = true then (some false) else (some (bt357.2 == t326))) else (some false)) else (some false))) else (some false)) else (some false)) else (some false)) else (some false))) else (some false)) else (some false)) else (some false)) else (some false)) else (some false)) else (some false)) else (some false))) = some r := H
                have A47 := Aside0.mk A470
                clear A470
                replace H := Option.bind_eq_some_iff.mp H
                obtain ⟨⟨t357, t358⟩, A480, H⟩ := H
                replace H : (if (t327.length : Int) = 0 then (if t331.toList = ([] : List UInt8) then (if t333.toList = ([] : List UInt8) then (if t341.toList = ([] : List UInt8) then (if t342 = 0 then (if t343 = t326 then (if t344 = 0 then (if t345 = true then (some false) else (if t346 = t326 then (if t347.toList = ([] : List UInt8) then (if t348 = 0 then (if t349 = t326 then (if t350 = true then (some false) else (if (t351 == 0 && (t352 == 0 && (t353 == 0 && (t354.toList == ([] : List UInt8))))) = true then (if t355 = t326 then (if t357 = true then (some false) else (some (t358 == t326))) else (some false)) else (some false))) else (some false)) else (some false)) else (some false)) else (some false))) else (some false)) else (some false)) else (some false)) else (some false)) else (some false)) else (some false)) else (some false)) = some r := H
                have A48 := Aside0.mk A480
                clear A480
                by_cases c49 : (t327.length : Int) = 0
                · rw [if_pos c49] at H
                  have c49b0 : ((t327.length : Int) == 0) = true := beq_iff_eq.mpr c49
                  have c49b1 : ((t327.length : Int) != 0) = false := bne_eq_false_iff_eq.mpr c49
                  clear c49
                  by_cases c50 : t331.toList = ([] : List UInt8)
                  · rw [if_pos c50] at H
                    have c50b0 : (t331.toList == ([] : List UInt8)) = true := beq_iff_eq.mpr c50
                    have c50b1 : (t331.toList != ([] : List UInt8)) = false := bne_eq_false_iff_eq.mpr c50
                    clear c50
                    by_cases c51 : t333.toList = ([] : List UInt8)
                    · rw [if_pos c51] at H
                      have c51b0 : (t333.toList == ([] : List UInt8)) = true := beq_iff_eq.mpr c51
                      have c51b1 : (t333.toList != ([] : List UInt8)) = false := bne_eq_false_iff_eq.mpr c51
                      clear c51
                      by_cases c52 : t341.toList = ([] : List UInt8)
                      · rw [if_pos c52] at H
                        have c52b0 : (t341.toList == ([] : List UInt8)) = true := beq_iff_eq.mpr c52
                        have c52b1 : (t341.toList != ([] : List UInt8)) = false := bne_eq_false_iff_eq.mpr c52
                        clear c52
                        by_cases c53 : t342 = 0
                        · rw [if_pos c53] at H
                          have c53b0 : (t342 == 0) = true := beq_iff_eq.mpr c53
                          have c53b1 : (t342 != 0) = false := bne_eq_false_iff_eq.mpr c53
                          clear c53
                          by_cases c54 : t343 = t326
                          · rw [if_pos c54] at H
                            have c54b0 : (t343 == t326) = true := beq_iff_eq.mpr c54
                            have c54b1 : (t343 != t326) = false := bne_eq_false_iff_eq.mpr c54
                            clear c54
                            by_cases c55 : t344 = 0
                            · rw [if_pos c55] at H
                              have c55b0 : (t344 == 0) = true := beq_iff_eq.mpr c55
                              have c55b1 : (t344 != 0) = false := bne_eq_false_iff_eq.mpr c55
                              clear c55
                              by_cases c56 : t345 = true
                              · subst c56
                                have H1 : (some false) = some r := by rw [if_pos rfl] at H; exact H
                                clear H
                                have H := H1
                                clear H1
                                exact absurd ((Option.some.inj H).trans hr.out) Bool.false_ne_true
                              · replace c56 := Bool.eq_false_iff.mpr c56
                                subst c56
                                have H1 : (if t346 = t326 then (if t347.toList = ([] : List UInt8) then (if t348 = 0 then (if t349 = t326 then (if t350 = true then (some false) else (if (t351 == 0 && (t352 == 0 && (t353 == 0 && (t354.toList == ([] : List UInt8))))) = true then (if t355 = t326 then (if t357 = true then (some false) else (some (t358 == t326))) else (some false)) else (some false))) else (some false)) else (some false)) else (some false)) else (some false)) = some r := by rw [if_neg (show ¬ (false = true) by decide)] at H; exact H
                                clear H
                                have H := H1
                                clear H1
                                by_cases c62 : t346 = t326
                                · rw [if_pos c62] at H
                                  have c62b0 : (t346 == t326) = true := beq_iff_eq.mpr c62
                                  have c62b1 : (t346 != t326) = false := bne_eq_false_iff_eq.mpr c62
                                  clear c62
                                  by_cases c63 : t347.toList = ([] : List UInt8)
                                  · rw [if_pos c63] at H
                                    have c63b0 : (t347.toList == ([] : List UInt8)) = true := beq_iff_eq.mpr c63
                                    have c63b1 : (t347.toList != ([] : List UInt8)) = false := bne_eq_false_iff_eq.mpr c63
                                    clear c63
                                    by_cases c64 : t348 = 0
                                    · rw [if_pos c64] at H
                                      have c64b0 : (t348 == 0) = true := beq_iff_eq.mpr c64
                                      have c64b1 : (t348 != 0) = false := bne_eq_false_iff_eq.mpr c64
                                      clear c64
                                      by_cases c65 : t349 = t326
                                      · rw [if_pos c65] at H
                                        have c65b0 : (t349 == t326) = true := beq_iff_eq.mpr c65
                                        have c65b1 : (t349 != t326) = false := bne_eq_false_iff_eq.mpr c65
                                        clear c65
                                        by_cases c66 : t350 = true
                                        · subst c66
                                          have H1 : (some false) = some r := by rw [if_pos rfl] at H; exact H
                                          clear H
                                          have H := H1
                                          clear H1
                                          exact absurd ((Option.some.inj H).trans hr.out) Bool.false_ne_true
                                        · replace c66 := Bool.eq_false_iff.mpr c66
                                          subst c66
                                          have H1 : (if (t351 == 0 && (t352 == 0 && (t353 == 0 && (t354.toList == ([] : List UInt8))))) = true then (if t355 = t326 then (if t357 = true then (some false) else (some (t358 == t326))) else (some false)) else (some false)) = some r := by rw [if_neg (show ¬ (false = true) by decide)] at H; exact H
                                          clear H
                                          have H := H1
                                          clear H1
                                          by_cases c72 : (t351 == 0 && (t352 == 0 && (t353 == 0 && (t354.toList == ([] : List UInt8))))) = true
                                          · rw [if_pos c72] at H
                                            have c72b0 : (t351 == 0 && (t352 == 0 && (t353 == 0 && (t354.toList == ([] : List UInt8))))) = true := c72
                                            (try (have c72b1 : decide (t351 = 0 && (t352 == 0 && (t353 == 0 && (t354.toList == ([] : List UInt8))))) = true := by simpa using c72))
                                            (try (have c72b2 : (t351 == 0 && (t352 == 0 && (t353 == 0 && (t354.toList == ([] : List UInt8))))) = true := by simpa using c72))
                                            clear c72
                                            by_cases c73 : t355 = t326
                                            · rw [if_pos c73] at H
                                              have c73b0 : (t355 == t326) = true := beq_iff_eq.mpr c73
                                              have c73b1 : (t355 != t326) = false := bne_eq_false_iff_eq.mpr c73
                                              clear c73
                                              by_cases c74 : t357 = true
                                              · subst c74
                                                have H1 : (some false) = some r := by rw [if_pos rfl] at H; exact H
                                                clear H
                                                have H := H1
                                                clear H1
                                                exact absurd ((Option.some.inj H).trans hr.out) Bool.false_ne_true
                                              · replace c74 := Bool.eq_false_iff.mpr c74
                                                subst c74
                                                have H1 : (some (t358 == t326)) = some r := by rw [if_neg (show ¬ (false = true) by decide)] at H; exact H
                                                clear H
                                                have H := H1
                                                clear H1
                                                first
                                                  | exact absurd ((Option.some.inj H).trans hr.out) Bool.false_ne_true
                                                  | (obtain rfl := Option.some.inj H
                                                     go_wp2_with (first | ((with_reducible refine gate_callee (f := 20) rfl ?_); refine goesL_ (some 109) rfl rfl Try.func20 (by kernel_rfl) rfl #[.string a0] rfl (by (try simp only [List.map_toArray, List.map_cons, List.map_nil]); first | done | rfl | (simp only [List.length_drop, List.length_take]; rfl)) ?_; (with_reducible refine (word_Least.calls kj14 a0 t341 t342 t343 _ A44.out).mono ?_); rintro e w' ⟨rfl, ⟨nd, rfl⟩⟩; refine ⟨_, rfl, ?_⟩; (try (rw [drewN_self wc]; generalize hq_ : World.drewN wc _ = wc; have n0_ : Aside0 (Kd.R (Kd.int .i64) 3 wc w.heap.size (fun _ => True) v329 t327) := ⟨by rw [← hq_]; exact (by (with_reducible repeat (first | apply Kd.R_alloc | apply Kd.R_drewN | apply Kd.R_drew)); exact HO_6.out)⟩; have n1_ : Aside0 (Below w.heap.size w wc) := ⟨by rw [← hq_]; exact (by repeat (first | (with_reducible first | exact HB.out | apply below_alloc | apply pw_below_drewN | apply below_drew1) | exact HB.out))⟩; clear HO_6 HB hq_; have HO_6 := n0_; have HB := n1_; clear n0_ n1_))) | ((with_reducible refine gate_callee (f := 21) rfl ?_); refine goesL_ (some 116) rfl rfl Try.func21 (by kernel_rfl) rfl #[.string a0, .string a0] rfl (by (try simp only [List.map_toArray, List.map_cons, List.map_nil]); first | done | rfl | (simp only [List.length_drop, List.length_take]; rfl)) ?_; (with_reducible refine (word_Same.calls kj14 a0 a0 t344 false t346 _ A45.out).mono ?_); rintro e w' ⟨rfl, ⟨nd, rfl⟩⟩; refine ⟨_, rfl, ?_⟩; (try (rw [drewN_self wc]; generalize hq_ : World.drewN wc _ = wc; have n0_ : Aside0 (Kd.R (Kd.int .i64) 3 wc w.heap.size (fun _ => True) v329 t327) := ⟨by rw [← hq_]; exact (by (with_reducible repeat (first | apply Kd.R_alloc | apply Kd.R_drewN | apply Kd.R_drew)); exact HO_6.out)⟩; have n1_ : Aside0 (Below w.heap.size w wc) := ⟨by rw [← hq_]; exact (by repeat (first | (with_reducible first | exact HB.out | apply below_alloc | apply pw_below_drewN | apply below_drew1) | exact HB.out))⟩; clear HO_6 HB hq_; have HO_6 := n0_; have HB := n1_; clear n0_ n1_))) | ((with_reducible refine gate_callee (f := 22) rfl ?_); refine goesL_ (some 122) rfl rfl Try.func22 (by kernel_rfl) rfl #[.string a0] rfl (by (try simp only [List.map_toArray, List.map_cons, List.map_nil]); first | done | rfl | (simp only [List.length_drop, List.length_take]; rfl)) ?_; (with_reducible refine (word_Primitive.calls kj14 a0 t347 t348 t349 _ A46.out).mono ?_); rintro e w' ⟨rfl, ⟨nd, rfl⟩⟩; refine ⟨_, rfl, ?_⟩; (try (rw [drewN_self wc]; generalize hq_ : World.drewN wc _ = wc; have n0_ : Aside0 (Kd.R (Kd.int .i64) 3 wc w.heap.size (fun _ => True) v329 t327) := ⟨by rw [← hq_]; exact (by (with_reducible repeat (first | apply Kd.R_alloc | apply Kd.R_drewN | apply Kd.R_drew)); exact HO_6.out)⟩; have n1_ : Aside0 (Below w.heap.size w wc) := ⟨by rw [← hq_]; exact (by repeat (first | (with_reducible first | exact HB.out | apply below_alloc | apply pw_below_drewN | apply below_drew1) | exact HB.out))⟩; clear HO_6 HB hq_; have HO_6 := n0_; have HB := n1_; clear n0_ n1_))) | ((with_reducible refine gate_callee (f := 13) rfl ?_); refine goesL_ (some 128) rfl rfl Try.func13 (by kernel_rfl) rfl #[.string a0] rfl (by (try simp only [List.map_toArray, List.map_cons, List.map_nil]); first | done | rfl | (simp only [List.length_drop, List.length_take]; rfl)) ?_; (with_reducible refine (word_Balanced.calls kj14 a0 false t351 t352 t353 t354 t355 _ A47.out).mono ?_); rintro e w81 ⟨rfl, hb⟩; refine ⟨_, rfl, ?_⟩; have n0_ := Aside0.mk (Kd.R_below (by (with_reducible repeat (first | apply Kd.R_alloc | apply Kd.R_drewN | apply Kd.R_drew)); exact HO_6.out) hb); have n1_ := Aside0.mk (below_step (by repeat (first | (with_reducible first | exact HB.out | apply below_alloc | apply pw_below_drewN | apply below_drew1) | exact HB.out)) hb); clear HO_6; clear HB; have HO_6 := n0_; have HB := n1_; clear n0_ n1_; (try clear hb); (try clear hb2); (try clear hk); (try clear hi)) | ((with_reducible refine gate_dst (N := 24) rfl ?_); (try (refine gate_guard (by rfl) ?_; dsimp only)); refine box_event ?hg (N := 24) ?hd (cs := #[.int .i64 0, .int .i64 0, .int .i64 0, .string (⟨#[]⟩ : ByteArray)]) (t := 28) ?hr ?_; (case hd => rfl); (case hg => rfl); (case hr => first | (go_simp; done) | (go_simp; rfl)); intro gb356 hg w82 hbox hb; have n0_ := Aside0.mk (Kd.R_below (by (with_reducible repeat (first | apply Kd.R_alloc | apply Kd.R_drewN | apply Kd.R_drew)); exact HO_6.out) hb); have n1_ := Aside0.mk (below_step (by repeat (first | (with_reducible first | exact HB.out | apply below_alloc | apply pw_below_drewN | apply below_drew1) | exact HB.out)) hb); have n2_ := Aside0.mk (hbox); have n3_ := Aside0.mk ((by rw [hg]; exact (below_size (by repeat (first | (with_reducible first | exact HB.out | apply below_alloc | apply pw_below_drewN | apply below_drew1) | exact HB.out))) : w.heap.size ≤ gb356)); have n4_ := Aside0.mk ((by rw [hg]; exact (below_size (by repeat (first | (with_reducible first | exact HB.out | apply below_alloc | apply pw_below_drewN | apply below_drew1) | exact HB.out))) : w.heap.size ≤ gb356)); clear HO_6; clear HB; have HO_6 := n0_; have HB := n1_; have BK356 := n2_; have GW356 := n3_; have GE356 := n4_; clear n0_ n1_ n2_ n3_ n4_; clear hb hbox hg; have hcz83_0 : w82.cell? ⟨gb356, 0, none⟩ = some (.int .i64 0) := (blk_cell BK356.out 0).trans rfl; have hcz83_1 : w82.cell? ⟨gb356, 1, none⟩ = some (.int .i64 0) := (blk_cell BK356.out 1).trans rfl; have hcz83_2 : w82.cell? ⟨gb356, 2, none⟩ = some (.int .i64 0) := (blk_cell BK356.out 2).trans rfl; have hcz83_3 : w82.cell? ⟨gb356, 3, none⟩ = some (.string (⟨#[]⟩ : ByteArray)) := (blk_cell BK356.out 3).trans rfl; have hfz83_0 := blk_frozen BK356.out 0; have hfz83_1 := blk_frozen BK356.out 1; have hfz83_2 := blk_frozen BK356.out 2; have hfz83_3 := blk_frozen BK356.out 3) | ((with_reducible refine gate_callee (f := 27) rfl ?_); refine goesL_ (some 134) rfl rfl Try.func27 (by kernel_rfl) rfl #[.string a0] rfl (by (try simp only [List.map_toArray, List.map_cons, List.map_nil]); first | done | rfl | (simp only [List.length_drop, List.length_take]; rfl)) ?_; (with_reducible refine (word_Conjugate.calls kj14 a0 false t358 _ A48.out).mono ?_); rintro e w84 ⟨rfl, hb⟩; refine ⟨_, rfl, ?_⟩; have n0_ := Aside0.mk (Kd.R_below (by (with_reducible repeat (first | apply Kd.R_alloc | apply Kd.R_drewN | apply Kd.R_drew)); exact (Kd.R_mono (Kd.R_far (p := ⟨gb356, 3, none⟩) (Kd.R_far (p := ⟨gb356, 2, none⟩) (Kd.R_far (p := ⟨gb356, 1, none⟩) (Kd.R_far (p := ⟨gb356, 0, none⟩) (Kd.R_types HO_6.out BK356.out (by decide)) (fun _ hk => hk.2) (.int .i64 t351)) (fun _ hk => hk.2) (.int .i64 t352)) (fun _ hk => hk.2) (.int .i64 t353)) (fun _ hk => hk.2) (.string t354)) (fun _ h_ => h_.1))) hb); have n1_ := Aside0.mk (blk_below (g := gb356) (o := .cells #[.int .i64 t351, .int .i64 t352, .int .i64 t353, .string t354] 28 (0, 0)) (by (with_reducible repeat (first | refine blk_drewN ?_ _ | refine blk_drew ?_ | refine blk_alloc ?_ _)); refine blk_put (cs := #[.int .i64 t351, .int .i64 t352, .int .i64 t353, .string (⟨#[]⟩ : ByteArray)]) ?_ 3 _ rfl; (with_reducible repeat (first | refine blk_drewN ?_ _ | refine blk_drew ?_ | refine blk_alloc ?_ _)); refine blk_put (cs := #[.int .i64 t351, .int .i64 t352, .int .i64 0, .string (⟨#[]⟩ : ByteArray)]) ?_ 2 _ rfl; (with_reducible repeat (first | refine blk_drewN ?_ _ | refine blk_drew ?_ | refine blk_alloc ?_ _)); refine blk_put (cs := #[.int .i64 t351, .int .i64 0, .int .i64 0, .string (⟨#[]⟩ : ByteArray)]) ?_ 1 _ rfl; (with_reducible repeat (first | refine blk_drewN ?_ _ | refine blk_drew ?_ | refine blk_alloc ?_ _)); refine blk_put (cs := #[.int .i64 0, .int .i64 0, .int .i64 0, .string (⟨#[]⟩ : ByteArray)]) ?_ 0 _ rfl; (with_reducible repeat (first | refine blk_drewN ?_ _ | refine blk_drew ?_ | refine blk_alloc ?_ _)); exact BK356.out) hb); have n2_ := Aside0.mk (below_step (by repeat (first | (with_reducible first | exact HB.out | apply below_alloc | apply pw_below_drewN | apply below_drew1 | refine below_set ?_ GE356.out) | exact HB.out)) hb); clear HO_6; clear BK356; clear HB; have HO_6 := n0_; have BK356 := n1_; have HB := n2_; clear n0_ n1_ n2_; (try clear hb); (try clear hb2); (try clear hk); (try clear hi); obtain ⟨Ao85, co85, eo85⟩ := Kd.R_slice HO_6.out; subst eo85; have hcz86_0 : w84.cell? ⟨gb356, 0, none⟩ = some (.int .i64 t351) := (blk_cell BK356.out 0).trans rfl; have hcz86_1 : w84.cell? ⟨gb356, 1, none⟩ = some (.int .i64 t352) := (blk_cell BK356.out 1).trans rfl; have hcz86_2 : w84.cell? ⟨gb356, 2, none⟩ = some (.int .i64 t353) := (blk_cell BK356.out 2).trans rfl; have hcz86_3 : w84.cell? ⟨gb356, 3, none⟩ = some (.string t354) := (blk_cell BK356.out 3).trans rfl; have hfz86_0 := blk_frozen BK356.out 0; have hfz86_1 := blk_frozen BK356.out 1; have hfz86_2 := blk_frozen BK356.out 2; have hfz86_3 := blk_frozen BK356.out 3))
                                                     go_ret
                                                     exact ⟨by first | rfl | (simp [errW_none, errW_some] <;> rfl) | (simp [*, errW_none, errW_some] <;> rfl), by repeat (first | (with_reducible first | exact HB.out | apply below_alloc | apply pw_below_drewN | apply below_drew1 | refine below_set ?_ GE356.out) | exact HB.out)⟩)
                                                all_goals (exfalso; rename_i hne; exact hne (by simpa using c72b0))
                                            · rw [if_neg c73] at H
                                              have c73b0 : (t355 == t326) = false := beq_eq_false_iff_ne.mpr c73
                                              have c73b1 : (t355 != t326) = true := bne_iff_ne.mpr c73
                                              exact absurd ((Option.some.inj H).trans hr.out) Bool.false_ne_true
                                          · rw [if_neg c72] at H
                                            have c72b0 : (t351 == 0 && (t352 == 0 && (t353 == 0 && (t354.toList == ([] : List UInt8))))) = false := by simpa using c72
                                            (try (have c72b1 : decide (t351 = 0 && (t352 == 0 && (t353 == 0 && (t354.toList == ([] : List UInt8))))) = false := by simpa using c72))
                                            (try (have c72b2 : (t351 == 0 && (t352 == 0 && (t353 == 0 && (t354.toList == ([] : List UInt8))))) = false := by simpa using c72))
                                            (try (have c72b3 : ¬ (t351 = 0 && (t352 == 0 && (t353 == 0 && (t354.toList == ([] : List UInt8))))) := by simpa using c72))
                                            clear c72
                                            exact absurd ((Option.some.inj H).trans hr.out) Bool.false_ne_true
                                      · rw [if_neg c65] at H
                                        have c65b0 : (t349 == t326) = false := beq_eq_false_iff_ne.mpr c65
                                        have c65b1 : (t349 != t326) = true := bne_iff_ne.mpr c65
                                        exact absurd ((Option.some.inj H).trans hr.out) Bool.false_ne_true
                                    · rw [if_neg c64] at H
                                      have c64b0 : (t348 == 0) = false := beq_eq_false_iff_ne.mpr c64
                                      have c64b1 : (t348 != 0) = true := bne_iff_ne.mpr c64
                                      exact absurd ((Option.some.inj H).trans hr.out) Bool.false_ne_true
                                  · rw [if_neg c63] at H
                                    have c63b0 : (t347.toList == ([] : List UInt8)) = false := beq_eq_false_iff_ne.mpr c63
                                    have c63b1 : (t347.toList != ([] : List UInt8)) = true := bne_iff_ne.mpr c63
                                    exact absurd ((Option.some.inj H).trans hr.out) Bool.false_ne_true
                                · rw [if_neg c62] at H
                                  have c62b0 : (t346 == t326) = false := beq_eq_false_iff_ne.mpr c62
                                  have c62b1 : (t346 != t326) = true := bne_iff_ne.mpr c62
                                  exact absurd ((Option.some.inj H).trans hr.out) Bool.false_ne_true
                            · rw [if_neg c55] at H
                              have c55b0 : (t344 == 0) = false := beq_eq_false_iff_ne.mpr c55
                              have c55b1 : (t344 != 0) = true := bne_iff_ne.mpr c55
                              exact absurd ((Option.some.inj H).trans hr.out) Bool.false_ne_true
                          · rw [if_neg c54] at H
                            have c54b0 : (t343 == t326) = false := beq_eq_false_iff_ne.mpr c54
                            have c54b1 : (t343 != t326) = true := bne_iff_ne.mpr c54
                            exact absurd ((Option.some.inj H).trans hr.out) Bool.false_ne_true
                        · rw [if_neg c53] at H
                          have c53b0 : (t342 == 0) = false := beq_eq_false_iff_ne.mpr c53
                          have c53b1 : (t342 != 0) = true := bne_iff_ne.mpr c53
                          exact absurd ((Option.some.inj H).trans hr.out) Bool.false_ne_true
                      · rw [if_neg c52] at H
                        have c52b0 : (t341.toList == ([] : List UInt8)) = false := beq_eq_false_iff_ne.mpr c52
                        have c52b1 : (t341.toList != ([] : List UInt8)) = true := bne_iff_ne.mpr c52
                        exact absurd ((Option.some.inj H).trans hr.out) Bool.false_ne_true
                    · rw [if_neg c51] at H
                      have c51b0 : (t333.toList == ([] : List UInt8)) = false := beq_eq_false_iff_ne.mpr c51
                      have c51b1 : (t333.toList != ([] : List UInt8)) = true := bne_iff_ne.mpr c51
                      exact absurd ((Option.some.inj H).trans hr.out) Bool.false_ne_true
                  · rw [if_neg c50] at H
                    have c50b0 : (t331.toList == ([] : List UInt8)) = false := beq_eq_false_iff_ne.mpr c50
                    have c50b1 : (t331.toList != ([] : List UInt8)) = true := bne_iff_ne.mpr c50
                    exact absurd ((Option.some.inj H).trans hr.out) Bool.false_ne_true
                · rw [if_neg c49] at H
                  have c49b0 : ((t327.length : Int) == 0) = false := beq_eq_false_iff_ne.mpr c49
                  have c49b1 : ((t327.length : Int) != 0) = true := bne_iff_ne.mpr c49
                  have c49b2 : ¬ (t327 = []) := fun h_ => c49 (by rw [h_]; rfl)
                  exact absurd ((Option.some.inj H).trans hr.out) Bool.false_ne_true

/-- THE ONE PURE STATEMENT of schismalaw34_WordChecks: yours. -/
def schismalaw34_WordChecks.Pure : Prop := ∀ (a0 : ByteArray) (a1 : Int), a0.size ≤ 140737488351232 → (Lit.int .i64 a1).wf = true → ∃ k, schismalaw34_WordChecks.f k a0 a1 = some true
theorem schismalaw34_WordChecks.walk (P : schismalaw34_WordChecks.Pure) (a0 : ByteArray) (a1 : Int) (w : World) (w0 : a0.size ≤ 140737488351232) (w1 : (Lit.int .i64 a1).wf = true) :
    Calls Try.prog 10 #[.string a0, .int .i64 a1] w fun e w' => e = .returned (.bool true) ∧ Below w.heap.size w w' := by
  obtain ⟨k, h⟩ := P a0 a1 w0 w1
  refine (schismalaw34_WordChecks.calls k a0 a1 true w rfl h).mono ?_
  rintro e w' ⟨rfl, hd⟩
  exact ⟨rfl, hd⟩

end Go.Proofs.Ytpommkpgiogjgaa.X
