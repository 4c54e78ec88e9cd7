-- Printed by a program of this session's (the kit's print, told of functions proved by hand). Not trusted: Lean checks it.
import Derived.Test.YtpommkpgiogjgaaX0
import Derived.Test.YtpommkpgiogjgaaX2
import Derived.Test.YtpommkpgiogjgaaX4
import Derived.Test.YtpommkpgiogjgaaX6
import Derived.Test.YtpommkpgiogjgaaENeck
namespace Go.Proofs.Ytpommkpgiogjgaa.X
open Go.RowKit Go.Proofs.YtpommkpgiogjgaaW.PrintWords Go.Proofs.YtpommkpgiogjgaaW.PrintLast Go.Proofs.YtpommkpgiogjgaaW.PrintMore
attribute [local go_sem] max2_int min2_int max_two min_two max_three min_three max_four min_four   -- for this text's walks alone
set_option linter.unusedVariables false
set_option linter.unusedSimpArgs false

/-! ### schismalaw34_WordLaws: function 8 -/
mutual
def schismalaw34_WordLaws.j0 : Nat → ByteArray → ByteArray → ByteArray → Int → Bool → Option (Bool)
  | 0, _, _, _, _, _ => none
  | k + 1, x7, x14, x20, x21, x108 => if x108 = true then (some false) else (schismalaw34_WordLaws.l0 k x7 x14 x20 x21 (⟨#[]⟩ : ByteArray) 0)
def schismalaw34_WordLaws.j2 : Nat → ByteArray → ByteArray → ByteArray → Option (Bool)
  | 0, _, _, _ => none
  | k + 1, x7, x14, x23 => if x23.toList = x7.toList then (schismalaw34_WordLaws.j3 k x7 x14 x23 (decide ((x7.size : Int) > 7))) else (schismalaw34_WordLaws.j3 k x7 x14 x23 true)
def schismalaw34_WordLaws.j3 : Nat → ByteArray → ByteArray → ByteArray → Bool → Option (Bool)
  | 0, _, _, _, _ => none
  | k + 1, x7, x14, x23, x128 => if x128 = true then (some (x23.toList == x7.toList)) else ((word_Counts.f k x7).bind fun bt279 => ((word_Necklaces.f bt279.1).bind fun bt283 => (schismalaw34_WordLaws.l1 k x14 bt279.2 bt283.1 bt283.2 0 0)))
def schismalaw34_WordLaws.l1 : Nat → ByteArray → Int → List ByteArray → Int → Int → Int → Option (Bool)
  | 0, _, _, _, _, _, _ => none
  | k + 1, x14, x26, x27, x28, x29, x30 => if x30 < (x27.length : Int) then (if 0 ≤ x30 then (if (rdOf ByteArray.empty x27 x30).toList = x14.toList then (schismalaw34_WordLaws.l1 k x14 x26 x27 x28 (wrap64 (x29 + 1)) (wrap64 (x30 + 1))) else (schismalaw34_WordLaws.l1 k x14 x26 x27 x28 x29 (wrap64 (x30 + 1)))) else (none)) else (if x26 = 0 then (if x28 = 0 then (some (x29 == 1)) else (some false)) else (some false))
def schismalaw34_WordLaws.l0 : Nat → ByteArray → ByteArray → ByteArray → Int → ByteArray → Int → Option (Bool)
  | 0, _, _, _, _, _, _ => none
  | k + 1, x7, x14, x20, x21, x23, x24 => if x24 < x21 then (if x24 < 14 then (if x23.size + x20.size ≤ 9223372036854775807 then (schismalaw34_WordLaws.l0 k x7 x14 x20 x21 (x23 ++ x20) (wrap64 (x24 + 1))) else (none)) else (schismalaw34_WordLaws.j2 k x7 x14 x23)) else (schismalaw34_WordLaws.j2 k x7 x14 x23)
end
def schismalaw34_WordLaws.f (k : Nat) (l0_0 : List Int) (a0_1 : Int) (a1 : Int) (a2 : Int) : Option (Bool) := (schismalaw34_known.f k).bind fun t262 => (if t262 = true then ((schismalaw34_Make.f k l0_0 a0_1).bind fun t263 => ((word_Rotate.f k t263 (wrap64 (a1))).bind fun bt264 => ((word_Rotate.f k bt264.1 (wrap64 (a2))).bind fun bt266 => ((word_Rotate.f k t263 (wrap64 ((wrap64 (a1)) + (wrap64 (a2))))).bind fun bt268 => ((word_Least.f k t263).bind fun bt270 => ((word_Least.f k bt264.1).bind fun bt273 => ((word_Primitive.f k t263).bind fun bt276 => (if bt264.2 = 0 then (if bt266.2 = 0 then (if bt268.2 = 0 then (if bt270.2.2 = 0 then (if bt273.2.2 = 0 then (if bt276.2.2 = 0 then (if bt266.1.toList = bt268.1.toList then (schismalaw34_WordLaws.j0 k t263 bt270.1 bt276.1 bt276.2.1 (bt270.1.toList != bt273.1.toList)) else (schismalaw34_WordLaws.j0 k t263 bt270.1 bt276.1 bt276.2.1 true)) else (schismalaw34_WordLaws.j0 k t263 bt270.1 bt276.1 bt276.2.1 true)) else (schismalaw34_WordLaws.j0 k t263 bt270.1 bt276.1 bt276.2.1 true)) else (schismalaw34_WordLaws.j0 k t263 bt270.1 bt276.1 bt276.2.1 true)) else (schismalaw34_WordLaws.j0 k t263 bt270.1 bt276.1 bt276.2.1 true)) else (schismalaw34_WordLaws.j0 k t263 bt270.1 bt276.1 bt276.2.1 true)) else (schismalaw34_WordLaws.j0 k t263 bt270.1 bt276.1 bt276.2.1 true))))))))) else (some false))
theorem schismalaw34_WordLaws.mono_l : ∀ k, (∀ y0 y1 y2 y3 y4, LeO (schismalaw34_WordLaws.j0 k y0 y1 y2 y3 y4) (schismalaw34_WordLaws.j0 (k + 1) y0 y1 y2 y3 y4)) ∧ (∀ y0 y1 y2, LeO (schismalaw34_WordLaws.j2 k y0 y1 y2) (schismalaw34_WordLaws.j2 (k + 1) y0 y1 y2)) ∧ (∀ y0 y1 y2 y3, LeO (schismalaw34_WordLaws.j3 k y0 y1 y2 y3) (schismalaw34_WordLaws.j3 (k + 1) y0 y1 y2 y3)) ∧ (∀ y0 y1 y2 y3 y4 y5, LeO (schismalaw34_WordLaws.l1 k y0 y1 y2 y3 y4 y5) (schismalaw34_WordLaws.l1 (k + 1) y0 y1 y2 y3 y4 y5)) ∧ (∀ y0 y1 y2 y3 y4 y5, LeO (schismalaw34_WordLaws.l0 k y0 y1 y2 y3 y4 y5) (schismalaw34_WordLaws.l0 (k + 1) y0 y1 y2 y3 y4 y5))
  | 0 => ⟨fun _ _ _ _ _ r h => by simp [schismalaw34_WordLaws.j0] at h, fun _ _ _ r h => by simp [schismalaw34_WordLaws.j2] at h, fun _ _ _ _ r h => by simp [schismalaw34_WordLaws.j3] at h, fun _ _ _ _ _ _ r h => by simp [schismalaw34_WordLaws.l1] at h, fun _ _ _ _ _ _ r h => by simp [schismalaw34_WordLaws.l0] at h⟩
  | k + 1 => by
    obtain ⟨ih0, ih1, ih2, ih3, ih4⟩ := schismalaw34_WordLaws.mono_l k
    refine ⟨?_, ?_, ?_, ?_, ?_⟩
    · intro y0 y1 y2 y3 y4
      unfold schismalaw34_WordLaws.j0
      repeat' first
      | (with_reducible exact ih0 _ _ _ _ _)
      | (with_reducible exact ih1 _ _ _)
      | (with_reducible exact ih2 _ _ _ _)
      | (with_reducible exact ih3 _ _ _ _ _ _)
      | (with_reducible exact ih4 _ _ _ _ _ _)
      | (with_reducible exact schismalaw34_Make.mono _ _ _)
      | (with_reducible exact schismalaw34_known.mono _)
      | (with_reducible exact word_Counts.mono _ _)
      | (with_reducible exact word_Least.mono _ _)
      | (with_reducible exact word_Primitive.mono _ _)
      | (with_reducible exact word_Rotate.mono _ _ _)
      | (with_reducible exact LeO.refl _)
      | (with_reducible exact LeO.none _)
      | (with_reducible refine LeO.ite ?_ ?_)
      | (with_reducible refine LeO.bind ?_ (fun _ => ?_))
      | exact ih0 _ _ _ _ _
      | exact ih1 _ _ _
      | exact ih2 _ _ _ _
      | exact ih3 _ _ _ _ _ _
      | exact ih4 _ _ _ _ _ _
      | exact schismalaw34_Make.mono _ _ _
      | exact schismalaw34_known.mono _
      | exact word_Counts.mono _ _
      | exact word_Least.mono _ _
      | exact word_Primitive.mono _ _
      | exact word_Rotate.mono _ _ _
      | exact LeO.none _
      | refine LeO.ite ?_ ?_
      | refine LeO.bind ?_ (fun _ => ?_)
    · intro y0 y1 y2
      unfold schismalaw34_WordLaws.j2
      repeat' first
      | (with_reducible exact ih0 _ _ _ _ _)
      | (with_reducible exact ih1 _ _ _)
      | (with_reducible exact ih2 _ _ _ _)
      | (with_reducible exact ih3 _ _ _ _ _ _)
      | (with_reducible exact ih4 _ _ _ _ _ _)
      | (with_reducible exact schismalaw34_Make.mono _ _ _)
      | (with_reducible exact schismalaw34_known.mono _)
      | (with_reducible exact word_Counts.mono _ _)
      | (with_reducible exact word_Least.mono _ _)
      | (with_reducible exact word_Primitive.mono _ _)
      | (with_reducible exact word_Rotate.mono _ _ _)
      | (with_reducible exact LeO.refl _)
      | (with_reducible exact LeO.none _)
      | (with_reducible refine LeO.ite ?_ ?_)
      | (with_reducible refine LeO.bind ?_ (fun _ => ?_))
      | exact ih0 _ _ _ _ _
      | exact ih1 _ _ _
      | exact ih2 _ _ _ _
      | exact ih3 _ _ _ _ _ _
      | exact ih4 _ _ _ _ _ _
      | exact schismalaw34_Make.mono _ _ _
      | exact schismalaw34_known.mono _
      | exact word_Counts.mono _ _
      | exact word_Least.mono _ _
      | exact word_Primitive.mono _ _
      | exact word_Rotate.mono _ _ _
      | exact LeO.none _
      | refine LeO.ite ?_ ?_
      | refine LeO.bind ?_ (fun _ => ?_)
    · intro y0 y1 y2 y3
      unfold schismalaw34_WordLaws.j3
      repeat' first
      | (with_reducible exact ih0 _ _ _ _ _)
      | (with_reducible exact ih1 _ _ _)
      | (with_reducible exact ih2 _ _ _ _)
      | (with_reducible exact ih3 _ _ _ _ _ _)
      | (with_reducible exact ih4 _ _ _ _ _ _)
      | (with_reducible exact schismalaw34_Make.mono _ _ _)
      | (with_reducible exact schismalaw34_known.mono _)
      | (with_reducible exact word_Counts.mono _ _)
      | (with_reducible exact word_Least.mono _ _)
      | (with_reducible exact word_Primitive.mono _ _)
      | (with_reducible exact word_Rotate.mono _ _ _)
      | (with_reducible exact LeO.refl _)
      | (with_reducible exact LeO.none _)
      | (with_reducible refine LeO.ite ?_ ?_)
      | (with_reducible refine LeO.bind ?_ (fun _ => ?_))
      | exact ih0 _ _ _ _ _
      | exact ih1 _ _ _
      | exact ih2 _ _ _ _
      | exact ih3 _ _ _ _ _ _
      | exact ih4 _ _ _ _ _ _
      | exact schismalaw34_Make.mono _ _ _
      | exact schismalaw34_known.mono _
      | exact word_Counts.mono _ _
      | exact word_Least.mono _ _
      | exact word_Primitive.mono _ _
      | exact word_Rotate.mono _ _ _
      | exact LeO.none _
      | refine LeO.ite ?_ ?_
      | refine LeO.bind ?_ (fun _ => ?_)
    · intro y0 y1 y2 y3 y4 y5
      unfold schismalaw34_WordLaws.l1
      repeat' first
      | (with_reducible exact ih0 _ _ _ _ _)
      | (with_reducible exact ih1 _ _ _)
      | (with_reducible exact ih2 _ _ _ _)
      | (with_reducible exact ih3 _ _ _ _ _ _)
      | (with_reducible exact ih4 _ _ _ _ _ _)
      | (with_reducible exact schismalaw34_Make.mono _ _ _)
      | (with_reducible exact schismalaw34_known.mono _)
      | (with_reducible exact word_Counts.mono _ _)
      | (with_reducible exact word_Least.mono _ _)
      | (with_reducible exact word_Primitive.mono _ _)
      | (with_reducible exact word_Rotate.mono _ _ _)
      | (with_reducible exact LeO.refl _)
      | (with_reducible exact LeO.none _)
      | (with_reducible refine LeO.ite ?_ ?_)
      | (with_reducible refine LeO.bind ?_ (fun _ => ?_))
      | exact ih0 _ _ _ _ _
      | exact ih1 _ _ _
      | exact ih2 _ _ _ _
      | exact ih3 _ _ _ _ _ _
      | exact ih4 _ _ _ _ _ _
      | exact schismalaw34_Make.mono _ _ _
      | exact schismalaw34_known.mono _
      | exact word_Counts.mono _ _
      | exact word_Least.mono _ _
      | exact word_Primitive.mono _ _
      | exact word_Rotate.mono _ _ _
      | exact LeO.none _
      | refine LeO.ite ?_ ?_
      | refine LeO.bind ?_ (fun _ => ?_)
    · intro y0 y1 y2 y3 y4 y5
      unfold schismalaw34_WordLaws.l0
      repeat' first
      | (with_reducible exact ih0 _ _ _ _ _)
      | (with_reducible exact ih1 _ _ _)
      | (with_reducible exact ih2 _ _ _ _)
      | (with_reducible exact ih3 _ _ _ _ _ _)
      | (with_reducible exact ih4 _ _ _ _ _ _)
      | (with_reducible exact schismalaw34_Make.mono _ _ _)
      | (with_reducible exact schismalaw34_known.mono _)
      | (with_reducible exact word_Counts.mono _ _)
      | (with_reducible exact word_Least.mono _ _)
      | (with_reducible exact word_Primitive.mono _ _)
      | (with_reducible exact word_Rotate.mono _ _ _)
      | (with_reducible exact LeO.refl _)
      | (with_reducible exact LeO.none _)
      | (with_reducible refine LeO.ite ?_ ?_)
      | (with_reducible refine LeO.bind ?_ (fun _ => ?_))
      | exact ih0 _ _ _ _ _
      | exact ih1 _ _ _
      | exact ih2 _ _ _ _
      | exact ih3 _ _ _ _ _ _
      | exact ih4 _ _ _ _ _ _
      | exact schismalaw34_Make.mono _ _ _
      | exact schismalaw34_known.mono _
      | exact word_Counts.mono _ _
      | exact word_Least.mono _ _
      | exact word_Primitive.mono _ _
      | exact word_Rotate.mono _ _ _
      | exact LeO.none _
      | refine LeO.ite ?_ ?_
      | refine LeO.bind ?_ (fun _ => ?_)
theorem schismalaw34_WordLaws.mono : ∀ a0 a1 a2 a3 k, LeO (schismalaw34_WordLaws.f k a0 a1 a2 a3) (schismalaw34_WordLaws.f (k + 1) a0 a1 a2 a3) := by
  intro a0 a1 a2 a3 k
  obtain ⟨ih0, ih1, ih2, ih3, ih4⟩ := schismalaw34_WordLaws.mono_l k
  unfold schismalaw34_WordLaws.f
  repeat' first
      | (with_reducible exact ih0 _ _ _ _ _)
      | (with_reducible exact ih1 _ _ _)
      | (with_reducible exact ih2 _ _ _ _)
      | (with_reducible exact ih3 _ _ _ _ _ _)
      | (with_reducible exact ih4 _ _ _ _ _ _)
      | (with_reducible exact schismalaw34_Make.mono _ _ _)
      | (with_reducible exact schismalaw34_known.mono _)
      | (with_reducible exact word_Counts.mono _ _)
      | (with_reducible exact word_Least.mono _ _)
      | (with_reducible exact word_Primitive.mono _ _)
      | (with_reducible exact word_Rotate.mono _ _ _)
      | (with_reducible exact LeO.refl _)
      | (with_reducible exact LeO.none _)
      | (with_reducible refine LeO.ite ?_ ?_)
      | (with_reducible refine LeO.bind ?_ (fun _ => ?_))
      | exact ih0 _ _ _ _ _
      | exact ih1 _ _ _
      | exact ih2 _ _ _ _
      | exact ih3 _ _ _ _ _ _
      | exact ih4 _ _ _ _ _ _
      | exact schismalaw34_Make.mono _ _ _
      | exact schismalaw34_known.mono _
      | exact word_Counts.mono _ _
      | exact word_Least.mono _ _
      | exact word_Primitive.mono _ _
      | exact word_Rotate.mono _ _ _
      | exact LeO.none _
      | refine LeO.ite ?_ ?_
      | refine LeO.bind ?_ (fun _ => ?_)
set_option maxHeartbeats 8000000 in
set_option maxRecDepth 100000 in
theorem schismalaw34_WordLaws.calls (k : Nat) (A0_0 : Option Addr) (c0_0 : Nat) (l0_0 : List Int) (a0_1 : Int) (a1 : Int) (a2 : Int) (r : Bool) (w : World) (hr0_0 : Kd.C (Kd.int .u8) w A0_0 l0_0.length l0_0) (hc0_0 : l0_0.length ≤ c0_0) (h : schismalaw34_WordLaws.f k l0_0 a0_1 a1 a2 = some r) :
    Calls Try.prog 8 #[.agg #[.slice A0_0 l0_0.length c0_0, .int .u8 a0_1], .int .i8 a1, .int .i8 a2] w fun e w' => e = .returned (.bool r) ∧ Below w.heap.size w w' := by
  have hu24 := Try.underlying24
  have HR0_0 := Aside0.mk hr0_0
  have HC0_0 := Aside0.mk hc0_0
  clear hr0_0 hc0_0
  have HB := Aside0.mk (Below.refl w.heap.size w)
  have H : ((schismalaw34_known.f k).bind fun t262 => (if t262 = true then ((schismalaw34_Make.f k l0_0 a0_1).bind fun t263 => ((word_Rotate.f k t263 (wrap64 (a1))).bind fun bt264 => ((word_Rotate.f k bt264.1 (wrap64 (a2))).bind fun bt266 => ((word_Rotate.f k t263 (wrap64 ((wrap64 (a1)) + (wrap64 (a2))))).bind fun bt268 => ((word_Least.f k t263).bind fun bt270 => ((word_Least.f k bt264.1).bind fun bt273 => ((word_Primitive.f k t263).bind fun bt276 => (if bt264.2 = 0 then (if bt266.2 = 0 then (if bt268.2 = 0 then (if bt270.2.2 = 0 then (if bt273.2.2 = 0 then (if bt276.2.2 = 0 then (if bt266.1.toList = bt268.1.toList then (schismalaw34_WordLaws.j0 k t263 bt270.1 bt276.1 bt276.2.1 (bt270.1.toList != bt273.1.toList)) else (schismalaw34_WordLaws.j0 k t263 bt270.1 bt276.1 bt276.2.1 true)) else (schismalaw34_WordLaws.j0 k t263 bt270.1 bt276.1 bt276.2.1 true)) else (schismalaw34_WordLaws.j0 k t263 bt270.1 bt276.1 bt276.2.1 true)) else (schismalaw34_WordLaws.j0 k t263 bt270.1 bt276.1 bt276.2.1 true)) else (schismalaw34_WordLaws.j0 k t263 bt270.1 bt276.1 bt276.2.1 true)) else (schismalaw34_WordLaws.j0 k t263 bt270.1 bt276.1 bt276.2.1 true)) else (schismalaw34_WordLaws.j0 k t263 bt270.1 bt276.1 bt276.2.1 true))))))))) else (some false))) = some r := h
  clear h
  replace H := Option.bind_eq_some_iff.mp H
  obtain ⟨t262, A40, H⟩ := H
  replace H : (if t262 = true then ((schismalaw34_Make.f k l0_0 a0_1).bind fun t263 => ((word_Rotate.f k t263 (wrap64 (a1))).bind fun bt264 => ((word_Rotate.f k bt264.1 (wrap64 (a2))).bind fun bt266 => ((word_Rotate.f k t263 (wrap64 ((wrap64 (a1)) + (wrap64 (a2))))).bind fun bt268 => ((word_Least.f k t263).bind fun bt270 => ((word_Least.f k bt264.1).bind fun bt273 => ((word_Primitive.f k t263).bind fun bt276 => (if bt264.2 = 0 then (if bt266.2 = 0 then (if bt268.2 = 0 then (if bt270.2.2 = 0 then (if bt273.2.2 = 0 then (if bt276.2.2 = 0 then (if bt266.1.toList = bt268.1.toList then (schismalaw34_WordLaws.j0 k t263 bt270.1 bt276.1 bt276.2.1 (bt270.1.toList != bt273.1.toList)) else (schismalaw34_WordLaws.j0 k t263 bt270.1 bt276.1 bt276.2.1 true)) else (schismalaw34_WordLaws.j0 k t263 bt270.1 bt276.1 bt276.2.1 true)) else (schismalaw34_WordLaws.j0 k t263 bt270.1 bt276.1 bt276.2.1 true)) else (schismalaw34_WordLaws.j0 k t263 bt270.1 bt276.1 bt276.2.1 true)) else (schismalaw34_WordLaws.j0 k t263 bt270.1 bt276.1 bt276.2.1 true)) else (schismalaw34_WordLaws.j0 k t263 bt270.1 bt276.1 bt276.2.1 true)) else (schismalaw34_WordLaws.j0 k t263 bt270.1 bt276.1 bt276.2.1 true))))))))) else (some false)) = some r := H
  have A4 := Aside0.mk A40
  clear A40
  by_cases c5 : t262 = true
  · subst c5
    have H1 : ((schismalaw34_Make.f k l0_0 a0_1).bind fun t263 => ((word_Rotate.f k t263 (wrap64 (a1))).bind fun bt264 => ((word_Rotate.f k bt264.1 (wrap64 (a2))).bind fun bt266 => ((word_Rotate.f k t263 (wrap64 ((wrap64 (a1)) + (wrap64 (a2))))).bind fun bt268 => ((word_Least.f k t263).bind fun bt270 => ((word_Least.f k bt264.1).bind fun bt273 => ((word_Primitive.f k t263).bind fun bt276 => (if bt264.2 = 0 then (if bt266.2 = 0 then (if bt268.2 = 0 then (if bt270.2.2 = 0 then (if bt273.2.2 = 0 then (if bt276.2.2 = 0 then (if bt266.1.toList = bt268.1.toList then (schismalaw34_WordLaws.j0 k t263 bt270.1 bt276.1 bt276.2.1 (bt270.1.toList != bt273.1.toList)) else (schismalaw34_WordLaws.j0 k t263 bt270.1 bt276.1 bt276.2.1 true)) else (schismalaw34_WordLaws.j0 k t263 bt270.1 bt276.1 bt276.2.1 true)) else (schismalaw34_WordLaws.j0 k t263 bt270.1 bt276.1 bt276.2.1 true)) else (schismalaw34_WordLaws.j0 k t263 bt270.1 bt276.1 bt276.2.1 true)) else (schismalaw34_WordLaws.j0 k t263 bt270.1 bt276.1 bt276.2.1 true)) else (schismalaw34_WordLaws.j0 k t263 bt270.1 bt276.1 bt276.2.1 true)) else (schismalaw34_WordLaws.j0 k t263 bt270.1 bt276.1 bt276.2.1 true))))))))) = some r := by rw [if_pos rfl] at H; exact H
    clear H
    have H := H1
    clear H1
    replace H := Option.bind_eq_some_iff.mp H
    obtain ⟨t263, A60, H⟩ := H
    replace H : ((word_Rotate.f k t263 (wrap64 (a1))).bind fun bt264 => ((word_Rotate.f k bt264.1 (wrap64 (a2))).bind fun bt266 => ((word_Rotate.f k t263 (wrap64 ((wrap64 (a1)) + (wrap64 (a2))))).bind fun bt268 => ((word_Least.f k t263).bind fun bt270 => ((word_Least.f k bt264.1).bind fun bt273 => ((word_Primitive.f k t263).bind fun bt276 => (if bt264.2 = 0 then (if bt266.2 = 0 then (if bt268.2 = 0 then (if bt270.2.2 = 0 then (if bt273.2.2 = 0 then (if bt276.2.2 = 0 then (if bt266.1.toList = bt268.1.toList then (schismalaw34_WordLaws.j0 k t263 bt270.1 bt276.1 bt276.2.1 (bt270.1.toList != bt273.1.toList)) else (schismalaw34_WordLaws.j0 k t263 bt270.1 bt276.1 bt276.2.1 true)) else (schismalaw34_WordLaws.j0 k t263 bt270.1 bt276.1 bt276.2.1 true)) else (schismalaw34_WordLaws.j0 k t263 bt270.1 bt276.1 bt276.2.1 true)) else (schismalaw34_WordLaws.j0 k t263 bt270.1 bt276.1 bt276.2.1 true)) else (schismalaw34_WordLaws.j0 k t263 bt270.1 bt276.1 bt276.2.1 true)) else (schismalaw34_WordLaws.j0 k t263 bt270.1 bt276.1 bt276.2.1 true)) else (schismalaw34_WordLaws.j0 k t263 bt270.1 bt276.1 bt276.2.1 true)))))))) = some r := H
    have A6 := Aside0.mk A60
    clear A60
    replace H := Option.bind_eq_some_iff.mp H
    obtain ⟨⟨t264, t265⟩, A70, H⟩ := H
    replace H : ((word_Rotate.f k t264 (wrap64 (a2))).bind fun bt266 => ((word_Rotate.f k t263 (wrap64 ((wrap64 (a1)) + (wrap64 (a2))))).bind fun bt268 => ((word_Least.f k t263).bind fun bt270 => ((word_Least.f k t264).bind fun bt273 => ((word_Primitive.f k t263).bind fun bt276 => (if t265 = 0 then (if bt266.2 = 0 then (if bt268.2 = 0 then (if bt270.2.2 = 0 then (if bt273.2.2 = 0 then (if bt276.2.2 = 0 then (if bt266.1.toList = bt268.1.toList then (schismalaw34_WordLaws.j0 k t263 bt270.1 bt276.1 bt276.2.1 (bt270.1.toList != bt273.1.toList)) else (schismalaw34_WordLaws.j0 k t263 bt270.1 bt276.1 bt276.2.1 true)) else (schismalaw34_WordLaws.j0 k t263 bt270.1 bt276.1 bt276.2.1 true)) else (schismalaw34_WordLaws.j0 k t263 bt270.1 bt276.1 bt276.2.1 true)) else (schismalaw34_WordLaws.j0 k t263 bt270.1 bt276.1 bt276.2.1 true)) else (schismalaw34_WordLaws.j0 k t263 bt270.1 bt276.1 bt276.2.1 true)) else (schismalaw34_WordLaws.j0 k t263 bt270.1 bt276.1 bt276.2.1 true)) else (schismalaw34_WordLaws.j0 k t263 bt270.1 bt276.1 bt276.2.1 true))))))) = some r := H
    have A7 := Aside0.mk A70
    clear A70
    replace H := Option.bind_eq_some_iff.mp H
    obtain ⟨⟨t266, t267⟩, A80, H⟩ := H
    replace H : ((word_Rotate.f k t263 (wrap64 ((wrap64 (a1)) + (wrap64 (a2))))).bind fun bt268 => ((word_Least.f k t263).bind fun bt270 => ((word_Least.f k t264).bind fun bt273 => ((word_Primitive.f k t263).bind fun bt276 => (if t265 = 0 then (if t267 = 0 then (if bt268.2 = 0 then (if bt270.2.2 = 0 then (if bt273.2.2 = 0 then (if bt276.2.2 = 0 then (if t266.toList = bt268.1.toList then (schismalaw34_WordLaws.j0 k t263 bt270.1 bt276.1 bt276.2.1 (bt270.1.toList != bt273.1.toList)) else (schismalaw34_WordLaws.j0 k t263 bt270.1 bt276.1 bt276.2.1 true)) else (schismalaw34_WordLaws.j0 k t263 bt270.1 bt276.1 bt276.2.1 true)) else (schismalaw34_WordLaws.j0 k t263 bt270.1 bt276.1 bt276.2.1 true)) else (schismalaw34_WordLaws.j0 k t263 bt270.1 bt276.1 bt276.2.1 true)) else (schismalaw34_WordLaws.j0 k t263 bt270.1 bt276.1 bt276.2.1 true)) else (schismalaw34_WordLaws.j0 k t263 bt270.1 bt276.1 bt276.2.1 true)) else (schismalaw34_WordLaws.j0 k t263 bt270.1 bt276.1 bt276.2.1 true)))))) = some r := H
    have A8 := Aside0.mk A80
    clear A80
    replace H := Option.bind_eq_some_iff.mp H
    obtain ⟨⟨t268, t269⟩, A90, H⟩ := H
    replace H : ((word_Least.f k t263).bind fun bt270 => ((word_Least.f k t264).bind fun bt273 => ((word_Primitive.f k t263).bind fun bt276 => (if t265 = 0 then (if t267 = 0 then (if t269 = 0 then (if bt270.2.2 = 0 then (if bt273.2.2 = 0 then (if bt276.2.2 = 0 then (if t266.toList = t268.toList then (schismalaw34_WordLaws.j0 k t263 bt270.1 bt276.1 bt276.2.1 (bt270.1.toList != bt273.1.toList)) else (schismalaw34_WordLaws.j0 k t263 bt270.1 bt276.1 bt276.2.1 true)) else (schismalaw34_WordLaws.j0 k t263 bt270.1 bt276.1 bt276.2.1 true)) else (schismalaw34_WordLaws.j0 k t263 bt270.1 bt276.1 bt276.2.1 true)) else (schismalaw34_WordLaws.j0 k t263 bt270.1 bt276.1 bt276.2.1 true)) else (schismalaw34_WordLaws.j0 k t263 bt270.1 bt276.1 bt276.2.1 true)) else (schismalaw34_WordLaws.j0 k t263 bt270.1 bt276.1 bt276.2.1 true)) else (schismalaw34_WordLaws.j0 k t263 bt270.1 bt276.1 bt276.2.1 true))))) = some r := H
    have A9 := Aside0.mk A90
    clear A90
    replace H := Option.bind_eq_some_iff.mp H
    obtain ⟨⟨t270, t271, t272⟩, A100, H⟩ := H
    replace H : ((word_Least.f k t264).bind fun bt273 => ((word_Primitive.f k t263).bind fun bt276 => (if t265 = 0 then (if t267 = 0 then (if t269 = 0 then (if t272 = 0 then (if bt273.2.2 = 0 then (if bt276.2.2 = 0 then (if t266.toList = t268.toList then (schismalaw34_WordLaws.j0 k t263 t270 bt276.1 bt276.2.1 (t270.toList != bt273.1.toList)) else (schismalaw34_WordLaws.j0 k t263 t270 bt276.1 bt276.2.1 true)) else (schismalaw34_WordLaws.j0 k t263 t270 bt276.1 bt276.2.1 true)) else (schismalaw34_WordLaws.j0 k t263 t270 bt276.1 bt276.2.1 true)) else (schismalaw34_WordLaws.j0 k t263 t270 bt276.1 bt276.2.1 true)) else (schismalaw34_WordLaws.j0 k t263 t270 bt276.1 bt276.2.1 true)) else (schismalaw34_WordLaws.j0 k t263 t270 bt276.1 bt276.2.1 true)) else (schismalaw34_WordLaws.j0 k t263 t270 bt276.1 bt276.2.1 true)))) = some r := H
    have A10 := Aside0.mk A100
    clear A100
    replace H := Option.bind_eq_some_iff.mp H
    obtain ⟨⟨t273, t274, t275⟩, A110, H⟩ := H
    replace H : ((word_Primitive.f k t263).bind fun bt276 => (if t265 = 0 then (if t267 = 0 then (if t269 = 0 then (if t272 = 0 then (if t275 = 0 then (if bt276.2.2 = 0 then (if t266.toList = t268.toList then (schismalaw34_WordLaws.j0 k t263 t270 bt276.1 bt276.2.1 (t270.toList != t273.toList)) else (schismalaw34_WordLaws.j0 k t263 t270 bt276.1 bt276.2.1 true)) else (schismalaw34_WordLaws.j0 k t263 t270 bt276.1 bt276.2.1 true)) else (schismalaw34_WordLaws.j0 k t263 t270 bt276.1 bt276.2.1 true)) else (schismalaw34_WordLaws.j0 k t263 t270 bt276.1 bt276.2.1 true)) else (schismalaw34_WordLaws.j0 k t263 t270 bt276.1 bt276.2.1 true)) else (schismalaw34_WordLaws.j0 k t263 t270 bt276.1 bt276.2.1 true)) else (schismalaw34_WordLaws.j0 k t263 t270 bt276.1 bt276.2.1 true))) = some r := H
    have A11 := Aside0.mk A110
    clear A110
    replace H := Option.bind_eq_some_iff.mp H
    obtain ⟨⟨t276, t277, t278⟩, A120, H⟩ := H
    replace H : (if t265 = 0 then (if t267 = 0 then (if t269 = 0 then (if t272 = 0 then (if t275 = 0 then (if t278 = 0 then (if t266.toList = t268.toList then (schismalaw34_WordLaws.j0 k t263 t270 t276 t277 (t270.toList != t273.toList)) else (schismalaw34_WordLaws.j0 k t263 t270 t276 t277 true)) else (schismalaw34_WordLaws.j0 k t263 t270 t276 t277 true)) else (schismalaw34_WordLaws.j0 k t263 t270 t276 t277 true)) else (schismalaw34_WordLaws.j0 k t263 t270 t276 t277 true)) else (schismalaw34_WordLaws.j0 k t263 t270 t276 t277 true)) else (schismalaw34_WordLaws.j0 k t263 t270 t276 t277 true)) else (schismalaw34_WordLaws.j0 k t263 t270 t276 t277 true)) = some r := H
    have A12 := Aside0.mk A120
    clear A120
    have HC13 := Aside0.mk H
    clear H
    go_enter Try.func8, Try.ntmps8
    go_upto_region 10 with (first | ((with_reducible refine gate_dst (N := 3) rfl ?_); (try (refine gate_guard (by rfl) ?_; dsimp only)); refine box_event ?hg (N := 3) ?hd (cs := #[.slice A0_0 l0_0.length c0_0, .int .u8 a0_1]) (t := 24) ?hr ?_; (case hd => rfl); (case hg => rfl); (case hr => first | (go_simp; done) | (go_simp; rfl)); intro gb261 hg w14 hbox hb; have n0_ := Aside0.mk (below_step (by repeat (first | (with_reducible first | exact HB.out | apply below_alloc | apply pw_below_drewN | apply below_drew1) | exact HB.out)) hb); have n1_ := Aside0.mk (hbox); have n2_ := Aside0.mk ((by rw [hg]; exact (below_size (by repeat (first | (with_reducible first | exact HB.out | apply below_alloc | apply pw_below_drewN | apply below_drew1) | exact HB.out))) : w.heap.size ≤ gb261)); have n3_ := Aside0.mk ((by rw [hg]; exact (below_size (by repeat (first | (with_reducible first | exact HB.out | apply below_alloc | apply pw_below_drewN | apply below_drew1) | exact HB.out))) : w.heap.size ≤ gb261)); clear HB; have HB := n0_; have BK261 := n1_; have GW261 := n2_; have GE261 := n3_; clear n0_ n1_ n2_ n3_; clear hb hbox hg) | ((with_reducible refine gate_callee (f := 11) rfl ?_); refine goesL_ (some 31) rfl rfl Try.func11 (by kernel_rfl) rfl #[] rfl (by (try simp only [List.map_toArray, List.map_cons, List.map_nil]); first | done | rfl | (simp only [List.length_drop, List.length_take]; rfl)) ?_; (with_reducible refine (schismalaw34_known.calls k  true _ A4.out).mono ?_); rintro e w15 ⟨rfl, hb⟩; refine ⟨_, rfl, ?_⟩; have n0_ := Aside0.mk (blk_below (g := gb261) (o := .cells #[.slice A0_0 l0_0.length c0_0, .int .u8 a0_1] 24 (0, 0)) (by (with_reducible repeat (first | refine blk_drewN ?_ _ | refine blk_drew ?_ | refine blk_alloc ?_ _)); exact BK261.out) hb); have n1_ := Aside0.mk (below_step (by repeat (first | (with_reducible first | exact HB.out | apply below_alloc | apply pw_below_drewN | apply below_drew1 | refine below_set ?_ GE261.out) | exact HB.out)) hb); clear BK261; clear HB; have BK261 := n0_; have HB := n1_; clear n0_ n1_; (try clear hb); (try clear hb2); (try clear hk); (try clear hi); have hcz16_0 : w15.cell? ⟨gb261, 0, none⟩ = some (.slice A0_0 l0_0.length c0_0) := (blk_cell BK261.out 0).trans rfl; have hcz16_1 : w15.cell? ⟨gb261, 1, none⟩ = some (.int .u8 a0_1) := (blk_cell BK261.out 1).trans rfl; have hfz16_0 := blk_frozen BK261.out 0; have hfz16_1 := blk_frozen BK261.out 1) | ((with_reducible refine gate_callee (f := 12) rfl ?_); refine goesL_ (some 34) rfl rfl Try.func12 (by kernel_rfl) rfl #[.agg #[.slice A0_0 l0_0.length c0_0, .int .u8 a0_1]] rfl (by (try simp only [List.map_toArray, List.map_cons, List.map_nil]); first | done | rfl | (simp only [List.length_drop, List.length_take]; rfl)) ?_; (with_reducible refine (schismalaw34_Make.calls k _ _ l0_0 a0_1 t263 _ ?side1 ?side2 A6.out).mono ?_); (case side1 => repeat (first | exact (Kd.C_below HR0_0.out HB.out) | (with_reducible refine Kd.C_alloc ?_ _) | (with_reducible refine Kd.C_drewN ?_ _) | (with_reducible refine Kd.C_drew ?_))); (case side2 => exact HC0_0.out); rintro e w17 ⟨rfl, hb⟩; refine ⟨_, rfl, ?_⟩; have n0_ := Aside0.mk (blk_below (g := gb261) (o := .cells #[.slice A0_0 l0_0.length c0_0, .int .u8 a0_1] 24 (0, 0)) (by (with_reducible repeat (first | refine blk_drewN ?_ _ | refine blk_drew ?_ | refine blk_alloc ?_ _)); exact BK261.out) hb); have n1_ := Aside0.mk (below_step (by repeat (first | (with_reducible first | exact HB.out | apply below_alloc | apply pw_below_drewN | apply below_drew1 | refine below_set ?_ GE261.out) | exact HB.out)) hb); clear BK261; clear HB; have BK261 := n0_; have HB := n1_; clear n0_ n1_; (try clear hb); (try clear hb2); (try clear hk); (try clear hi)) | ((with_reducible refine gate_callee (f := 25) rfl ?_); refine goesL_ (some 39) rfl rfl Try.func25 (by kernel_rfl) rfl #[.string t263, .int .i64 (wrap64 (a1))] rfl (by (try simp only [List.map_toArray, List.map_cons, List.map_nil]); first | done | rfl | (simp only [List.length_drop, List.length_take]; rfl)) ?_; (with_reducible refine (word_Rotate.calls k t263 (wrap64 (a1)) t264 t265 _ A7.out).mono ?_); rintro e w' ⟨rfl, ⟨nd, rfl⟩⟩; refine ⟨_, rfl, ?_⟩) | ((with_reducible refine gate_callee (f := 25) rfl ?_); refine goesL_ (some 46) rfl rfl Try.func25 (by kernel_rfl) rfl #[.string t264, .int .i64 (wrap64 (a2))] rfl (by (try simp only [List.map_toArray, List.map_cons, List.map_nil]); first | done | rfl | (simp only [List.length_drop, List.length_take]; rfl)) ?_; (with_reducible refine (word_Rotate.calls k t264 (wrap64 (a2)) t266 t267 _ A8.out).mono ?_); rintro e w' ⟨rfl, ⟨nd, rfl⟩⟩; refine ⟨_, rfl, ?_⟩) | ((with_reducible refine gate_callee (f := 25) rfl ?_); refine goesL_ (some 56) rfl rfl Try.func25 (by kernel_rfl) rfl #[.string t263, .int .i64 (wrap64 ((wrap64 (a1)) + (wrap64 (a2))))] rfl (by (try simp only [List.map_toArray, List.map_cons, List.map_nil]); first | done | rfl | (simp only [List.length_drop, List.length_take]; rfl)) ?_; (with_reducible refine (word_Rotate.calls k t263 (wrap64 ((wrap64 (a1)) + (wrap64 (a2)))) t268 t269 _ A9.out).mono ?_); rintro e w' ⟨rfl, ⟨nd, rfl⟩⟩; refine ⟨_, rfl, ?_⟩) | ((with_reducible refine gate_callee (f := 20) rfl ?_); refine goesL_ (some 61) rfl rfl Try.func20 (by kernel_rfl) rfl #[.string t263] rfl (by (try simp only [List.map_toArray, List.map_cons, List.map_nil]); first | done | rfl | (simp only [List.length_drop, List.length_take]; rfl)) ?_; (with_reducible refine (word_Least.calls k t263 t270 t271 t272 _ A10.out).mono ?_); rintro e w' ⟨rfl, ⟨nd, rfl⟩⟩; refine ⟨_, rfl, ?_⟩) | ((with_reducible refine gate_callee (f := 20) rfl ?_); refine goesL_ (some 67) rfl rfl Try.func20 (by kernel_rfl) rfl #[.string t264] rfl (by (try simp only [List.map_toArray, List.map_cons, List.map_nil]); first | done | rfl | (simp only [List.length_drop, List.length_take]; rfl)) ?_; (with_reducible refine (word_Least.calls k t264 t273 t274 t275 _ A11.out).mono ?_); rintro e w' ⟨rfl, ⟨nd, rfl⟩⟩; refine ⟨_, rfl, ?_⟩) | ((with_reducible refine gate_callee (f := 22) rfl ?_); refine goesL_ (some 73) rfl rfl Try.func22 (by kernel_rfl) rfl #[.string t263] rfl (by (try simp only [List.map_toArray, List.map_cons, List.map_nil]); first | done | rfl | (simp only [List.length_drop, List.length_take]; rfl)) ?_; (with_reducible refine (word_Primitive.calls k t263 t276 t277 t278 _ A12.out).mono ?_); rintro e w' ⟨rfl, ⟨nd, rfl⟩⟩; refine ⟨_, rfl, ?_⟩))
    (try simp only [Act.put, List.setIfInBounds_toArray, List.set_cons_zero, List.set_cons_succ])
    go_cut [108] (fun v108 wc => ∃ (kq : Nat) (x108_12 : Bool), v108 = .bool x108_12 ∧ Aside0 (schismalaw34_WordLaws.j0 kq t263 t270 t276 t277 x108_12 = some r) ∧ Aside0 (kq ≤ k) ∧ Aside0 (wc.heap[gb261]? = some (.cells #[(.slice A0_0 l0_0.length c0_0), .int .u8 a0_1] 24 (0, 0))) ∧ Aside0 (Below w.heap.size w wc))
    case first =>
      have H := HC13.out
      clear HC13
      by_cases c18 : t265 = 0
      · rw [if_pos c18] at H
        have c18b0 : (t265 == 0) = true := beq_iff_eq.mpr c18
        have c18b1 : (t265 != 0) = false := bne_eq_false_iff_eq.mpr c18
        clear c18
        (first | rw [c18b0] | (simp only [i64_w, i32_w]; rw [c18b0]) | skip)
        by_cases c19 : t267 = 0
        · rw [if_pos c19] at H
          have c19b0 : (t267 == 0) = true := beq_iff_eq.mpr c19
          have c19b1 : (t267 != 0) = false := bne_eq_false_iff_eq.mpr c19
          clear c19
          by_cases c20 : t269 = 0
          · rw [if_pos c20] at H
            have c20b0 : (t269 == 0) = true := beq_iff_eq.mpr c20
            have c20b1 : (t269 != 0) = false := bne_eq_false_iff_eq.mpr c20
            clear c20
            by_cases c21 : t272 = 0
            · rw [if_pos c21] at H
              have c21b0 : (t272 == 0) = true := beq_iff_eq.mpr c21
              have c21b1 : (t272 != 0) = false := bne_eq_false_iff_eq.mpr c21
              clear c21
              by_cases c22 : t275 = 0
              · rw [if_pos c22] at H
                have c22b0 : (t275 == 0) = true := beq_iff_eq.mpr c22
                have c22b1 : (t275 != 0) = false := bne_eq_false_iff_eq.mpr c22
                clear c22
                by_cases c23 : t278 = 0
                · rw [if_pos c23] at H
                  have c23b0 : (t278 == 0) = true := beq_iff_eq.mpr c23
                  have c23b1 : (t278 != 0) = false := bne_eq_false_iff_eq.mpr c23
                  clear c23
                  by_cases c24 : t266.toList = t268.toList
                  · rw [if_pos c24] at H
                    have c24b0 : (t266.toList == t268.toList) = true := beq_iff_eq.mpr c24
                    have c24b1 : (t266.toList != t268.toList) = false := bne_eq_false_iff_eq.mpr c24
                    clear c24
                    have H' := Aside0.mk H
                    clear H
                    go_wp2
                    go_meet
                    case rel => exact ⟨_, ((t270.toList != t273.toList)), (by first | rfl | (simp; done) | (simp [*]; done)), H', ⟨by first | omega | exact Nat.le_refl _⟩, ⟨by (with_reducible repeat (first | refine blk_drewN ?_ _ | refine blk_drew ?_ | refine blk_alloc ?_ _)); exact BK261.out⟩, ⟨by repeat (first | (with_reducible first | exact HB.out | apply below_alloc | apply pw_below_drewN | apply below_drew1 | refine below_set ?_ GE261.out) | exact HB.out)⟩⟩
                  · rw [if_neg c24] at H
                    have c24b0 : (t266.toList == t268.toList) = false := beq_eq_false_iff_ne.mpr c24
                    have c24b1 : (t266.toList != t268.toList) = true := bne_iff_ne.mpr c24
                    have H' := Aside0.mk H
                    clear H
                    go_wp2
                    go_meet
                    case rel => exact ⟨_, (true), (by first | rfl | (simp; done) | (simp [*]; done)), H', ⟨by first | omega | exact Nat.le_refl _⟩, ⟨by (with_reducible repeat (first | refine blk_drewN ?_ _ | refine blk_drew ?_ | refine blk_alloc ?_ _)); exact BK261.out⟩, ⟨by repeat (first | (with_reducible first | exact HB.out | apply below_alloc | apply pw_below_drewN | apply below_drew1 | refine below_set ?_ GE261.out) | exact HB.out)⟩⟩
                · rw [if_neg c23] at H
                  have c23b0 : (t278 == 0) = false := beq_eq_false_iff_ne.mpr c23
                  have c23b1 : (t278 != 0) = true := bne_iff_ne.mpr c23
                  have H' := Aside0.mk H
                  clear H
                  go_wp2
                  go_meet
                  case rel => exact ⟨_, (true), (by first | rfl | (simp; done) | (simp [*]; done)), H', ⟨by first | omega | exact Nat.le_refl _⟩, ⟨by (with_reducible repeat (first | refine blk_drewN ?_ _ | refine blk_drew ?_ | refine blk_alloc ?_ _)); exact BK261.out⟩, ⟨by repeat (first | (with_reducible first | exact HB.out | apply below_alloc | apply pw_below_drewN | apply below_drew1 | refine below_set ?_ GE261.out) | exact HB.out)⟩⟩
              · rw [if_neg c22] at H
                have c22b0 : (t275 == 0) = false := beq_eq_false_iff_ne.mpr c22
                have c22b1 : (t275 != 0) = true := bne_iff_ne.mpr c22
                have H' := Aside0.mk H
                clear H
                go_wp2
                go_meet
                case rel => exact ⟨_, (true), (by first | rfl | (simp; done) | (simp [*]; done)), H', ⟨by first | omega | exact Nat.le_refl _⟩, ⟨by (with_reducible repeat (first | refine blk_drewN ?_ _ | refine blk_drew ?_ | refine blk_alloc ?_ _)); exact BK261.out⟩, ⟨by repeat (first | (with_reducible first | exact HB.out | apply below_alloc | apply pw_below_drewN | apply below_drew1 | refine below_set ?_ GE261.out) | exact HB.out)⟩⟩
            · rw [if_neg c21] at H
              have c21b0 : (t272 == 0) = false := beq_eq_false_iff_ne.mpr c21
              have c21b1 : (t272 != 0) = true := bne_iff_ne.mpr c21
              have H' := Aside0.mk H
              clear H
              go_wp2
              go_meet
              case rel => exact ⟨_, (true), (by first | rfl | (simp; done) | (simp [*]; done)), H', ⟨by first | omega | exact Nat.le_refl _⟩, ⟨by (with_reducible repeat (first | refine blk_drewN ?_ _ | refine blk_drew ?_ | refine blk_alloc ?_ _)); exact BK261.out⟩, ⟨by repeat (first | (with_reducible first | exact HB.out | apply below_alloc | apply pw_below_drewN | apply below_drew1 | refine below_set ?_ GE261.out) | exact HB.out)⟩⟩
          · rw [if_neg c20] at H
            have c20b0 : (t269 == 0) = false := beq_eq_false_iff_ne.mpr c20
            have c20b1 : (t269 != 0) = true := bne_iff_ne.mpr c20
            have H' := Aside0.mk H
            clear H
            go_wp2
            go_meet
            case rel => exact ⟨_, (true), (by first | rfl | (simp; done) | (simp [*]; done)), H', ⟨by first | omega | exact Nat.le_refl _⟩, ⟨by (with_reducible repeat (first | refine blk_drewN ?_ _ | refine blk_drew ?_ | refine blk_alloc ?_ _)); exact BK261.out⟩, ⟨by repeat (first | (with_reducible first | exact HB.out | apply below_alloc | apply pw_below_drewN | apply below_drew1 | refine below_set ?_ GE261.out) | exact HB.out)⟩⟩
        · rw [if_neg c19] at H
          have c19b0 : (t267 == 0) = false := beq_eq_false_iff_ne.mpr c19
          have c19b1 : (t267 != 0) = true := bne_iff_ne.mpr c19
          have H' := Aside0.mk H
          clear H
          go_wp2
          go_meet
          case rel => exact ⟨_, (true), (by first | rfl | (simp; done) | (simp [*]; done)), H', ⟨by first | omega | exact Nat.le_refl _⟩, ⟨by (with_reducible repeat (first | refine blk_drewN ?_ _ | refine blk_drew ?_ | refine blk_alloc ?_ _)); exact BK261.out⟩, ⟨by repeat (first | (with_reducible first | exact HB.out | apply below_alloc | apply pw_below_drewN | apply below_drew1 | refine below_set ?_ GE261.out) | exact HB.out)⟩⟩
      · rw [if_neg c18] at H
        have c18b0 : (t265 == 0) = false := beq_eq_false_iff_ne.mpr c18
        have c18b1 : (t265 != 0) = true := bne_iff_ne.mpr c18
        (first | rw [c18b0] | (simp only [i64_w, i32_w]; rw [c18b0]) | skip)
        have H' := Aside0.mk H
        clear H
        go_wp2
        go_meet
        case rel => exact ⟨_, (true), (by first | rfl | (simp; done) | (simp [*]; done)), H', ⟨by first | omega | exact Nat.le_refl _⟩, ⟨by (with_reducible repeat (first | refine blk_drewN ?_ _ | refine blk_drew ?_ | refine blk_alloc ?_ _)); exact BK261.out⟩, ⟨by repeat (first | (with_reducible first | exact HB.out | apply below_alloc | apply pw_below_drewN | apply below_drew1 | refine below_set ?_ GE261.out) | exact HB.out)⟩⟩
    case rest =>
      clear HC13
      try clear c1
      try clear c2
      try clear p2
      try clear c5
      try clear p6
      try clear c8
      try clear c11
      try clear c12
      try clear c18
      try clear c18b0
      try clear c18b1
      try clear c19
      try clear c19b0
      try clear c19b1
      try clear c20
      try clear c20b0
      try clear c20b1
      try clear c21
      try clear c21b0
      try clear c21b1
      try clear c22
      try clear c22b0
      try clear c22b1
      try clear c23
      try clear c23b0
      try clear c23b1
      try clear c24
      try clear c24b0
      try clear c24b1
      try clear hcz16_0
      try clear hcz16_1
      try clear hfz16_0
      try clear hfz16_1
      obtain ⟨kq, x108_12, rfl, HA, HJ12, BK261, HB⟩ := hcut
      cases kq with
      | zero => exact absurd HA.out (by simp [schismalaw34_WordLaws.j0])
      | succ kj12 =>
        have H := HA.out
        clear HA
        simp only [schismalaw34_WordLaws.j0] at H
        by_cases c25 : x108_12 = true
        · subst c25
          have H1 : (some false) = some r := by rw [if_pos rfl] at H; exact H
          clear H
          have H := H1
          clear H1
          obtain rfl := Option.some.inj H
          go_wp2
          go_ret
          exact ⟨by first | rfl | (simp [errW_none, errW_some] <;> rfl) | (simp [*, errW_none, errW_some] <;> rfl), by repeat (first | (with_reducible first | exact HB.out | apply below_alloc | apply pw_below_drewN | apply below_drew1 | refine below_set ?_ GE261.out) | exact HB.out)⟩
        · replace c25 := Bool.eq_false_iff.mpr c25
          subst c25
          have H1 : (schismalaw34_WordLaws.l0 kj12 t263 t270 t276 t277 (⟨#[]⟩ : ByteArray) 0) = some r := by rw [if_neg (show ¬ (false = true) by decide)] at H; exact H
          clear H
          have H := H1
          clear H1
          have HC26 := Aside0.mk H
          clear H
          go_upto_block 0 with (fail)
          go_cut [23] (fun v23 wc => ∃ (kq : Nat) (x23_25 : ByteArray), v23 = .string x23_25 ∧ Aside0 (schismalaw34_WordLaws.j2 kq t263 t270 x23_25 = some r) ∧ Aside0 (kq ≤ kj12) ∧ Aside0 (wc.heap[gb261]? = some (.cells #[(.slice A0_0 l0_0.length c0_0), .int .u8 a0_1] 24 (0, 0))) ∧ Aside0 (Below w.heap.size w wc))
          case first =>
            have H := HC26.out
            clear HC26
            have H' := Aside0.mk H
            clear H
            go_wp2
            go_loopg [23, 24] kj12 (fun kq v23 v24 w' => ∃ (x23_2 : ByteArray) (x24_2 : Int), v23 = .string x23_2 ∧ v24 = .int .i64 x24_2 ∧ Aside0 (schismalaw34_WordLaws.l0 kq t263 t270 t276 t277 x23_2 x24_2 = some r) ∧ Aside0 (kq ≤ kj12) ∧ Aside0 (w'.heap[gb261]? = some (.cells #[(.slice A0_0 l0_0.length c0_0), .int .u8 a0_1] 24 (0, 0))) ∧ Aside0 (Below w.heap.size w w'))
            case atStart => exact ⟨((⟨#[]⟩ : ByteArray)), (0), (by first | rfl | (simp; done) | (simp [*]; done)), (by first | rfl | (simp; done) | (simp [*]; done)), H', ⟨Nat.le_refl _⟩, ⟨by (with_reducible repeat (first | refine blk_drewN ?_ _ | refine blk_drew ?_ | refine blk_alloc ?_ _)); exact BK261.out⟩, ⟨by repeat (first | (with_reducible first | exact HB.out | apply below_alloc | apply pw_below_drewN | apply below_drew1 | refine below_set ?_ GE261.out) | exact HB.out)⟩⟩
            case round =>
              clear H'
              try clear c1
              try clear c2
              try clear p2
              try clear c5
              try clear p6
              try clear c8
              try clear c11
              try clear c12
              try clear c18
              try clear c18b0
              try clear c18b1
              try clear c19
              try clear c19b0
              try clear c19b1
              try clear c20
              try clear c20b0
              try clear c20b1
              try clear c21
              try clear c21b0
              try clear c21b1
              try clear c22
              try clear c22b0
              try clear c22b1
              try clear c23
              try clear c23b0
              try clear c23b1
              try clear c24
              try clear c24b0
              try clear c24b1
              try clear c25
              try clear hcz16_0
              try clear hcz16_1
              try clear hfz16_0
              try clear hfz16_1
              try clear p2
              try clear p6
              obtain ⟨x23_2, x24_2, rfl, rfl, HA, HK2, BK261, HB⟩ := hrel
              cases gk with
              | zero => exact absurd HA.out (by simp [schismalaw34_WordLaws.l0])
              | succ k2 =>
                have H := HA.out
                clear HA
                simp only [schismalaw34_WordLaws.l0] at H
                by_cases c27 : x24_2 < t277
                · rw [if_pos c27] at H
                  have c27b0 : decide (x24_2 < t277) = true := decide_eq_true c27
                  clear c27
                  (first | rw [c27b0] | (simp only [i64_w, i32_w]; rw [c27b0]) | skip)
                  by_cases c28 : x24_2 < 14
                  · rw [if_pos c28] at H
                    have c28b0 : decide (x24_2 < 14) = true := decide_eq_true c28
                    clear c28
                    by_cases c29 : x23_2.size + t276.size ≤ 9223372036854775807
                    · rw [if_pos c29] at H
                      have c29b0 := eq_true c29
                      have c29b1 : decide (x23_2.size + t276.size ≤ 9223372036854775807) = true := decide_eq_true c29
                      try have c29b2 : (9223372036854775807 < x23_2.size + t276.size) = False := eq_false (Nat.not_lt.2 c29)
                      have H' := Aside0.mk H
                      clear H
                      go_wp2
                      go_roundg k2
                      case measure => have := HJ12.out; have := HK2.out; omega
                      case rel => exact ⟨(x23_2 ++ t276), (wrap64 (x24_2 + 1)), (by first | rfl | (simp; done) | (simp [*]; done)), (by first | rfl | (simp; done) | (simp [*]; done)), H', ⟨by have := HJ12.out; have := HK2.out; omega⟩, ⟨by (with_reducible repeat (first | refine blk_drewN ?_ _ | refine blk_drew ?_ | refine blk_alloc ?_ _)); exact BK261.out⟩, ⟨by repeat (first | (with_reducible first | exact HB.out | apply below_alloc | apply pw_below_drewN | apply below_drew1 | refine below_set ?_ GE261.out) | exact HB.out)⟩⟩
                    · rw [if_neg c29] at H
                      exact absurd H (by simp)
                  · rw [if_neg c28] at H
                    have c28b0 : decide (x24_2 < 14) = false := decide_eq_false c28
                    clear c28
                    have H' := Aside0.mk H
                    clear H
                    go_wp2
                    go_meet
                    case rel => exact ⟨_, (x23_2), (by first | rfl | (simp; done) | (simp [*]; done)), H', ⟨by have := HJ12.out; have := HK2.out; first | omega | exact Nat.le_refl _⟩, ⟨by (with_reducible repeat (first | refine blk_drewN ?_ _ | refine blk_drew ?_ | refine blk_alloc ?_ _)); exact BK261.out⟩, ⟨by repeat (first | (with_reducible first | exact HB.out | apply below_alloc | apply pw_below_drewN | apply below_drew1 | refine below_set ?_ GE261.out) | exact HB.out)⟩⟩
                · rw [if_neg c27] at H
                  have c27b0 : decide (x24_2 < t277) = false := decide_eq_false c27
                  clear c27
                  (first | rw [c27b0] | (simp only [i64_w, i32_w]; rw [c27b0]) | skip)
                  have H' := Aside0.mk H
                  clear H
                  go_wp2
                  go_meet
                  case rel => exact ⟨_, (x23_2), (by first | rfl | (simp; done) | (simp [*]; done)), H', ⟨by have := HJ12.out; have := HK2.out; first | omega | exact Nat.le_refl _⟩, ⟨by (with_reducible repeat (first | refine blk_drewN ?_ _ | refine blk_drew ?_ | refine blk_alloc ?_ _)); exact BK261.out⟩, ⟨by repeat (first | (with_reducible first | exact HB.out | apply below_alloc | apply pw_below_drewN | apply below_drew1 | refine below_set ?_ GE261.out) | exact HB.out)⟩⟩
          case rest =>
            clear HC26
            try clear c1
            try clear c2
            try clear p2
            try clear c5
            try clear p6
            try clear c8
            try clear c11
            try clear c12
            try clear c18
            try clear c18b0
            try clear c18b1
            try clear c19
            try clear c19b0
            try clear c19b1
            try clear c20
            try clear c20b0
            try clear c20b1
            try clear c21
            try clear c21b0
            try clear c21b1
            try clear c22
            try clear c22b0
            try clear c22b1
            try clear c23
            try clear c23b0
            try clear c23b1
            try clear c24
            try clear c24b0
            try clear c24b1
            try clear c25
            try clear c27
            try clear c27b0
            try clear c28
            try clear c28b0
            try clear c29
            try clear c29b0
            try clear c29b1
            try clear c29b2
            try clear hcz16_0
            try clear hcz16_1
            try clear hfz16_0
            try clear hfz16_1
            try clear p2
            try clear p6
            obtain ⟨kq, x23_25, rfl, HA, HJ25, BK261, HB⟩ := hcut
            cases kq with
            | zero => exact absurd HA.out (by simp [schismalaw34_WordLaws.j2])
            | succ kj25 =>
              have H := HA.out
              clear HA
              simp only [schismalaw34_WordLaws.j2] at H
              have HC30 := Aside0.mk H
              clear H
              go_upto_region 17 with (fail)
              go_cut [128] (fun v128 wc => ∃ (kq : Nat) (x128_29 : Bool), v128 = .bool x128_29 ∧ Aside0 (schismalaw34_WordLaws.j3 kq t263 t270 x23_25 x128_29 = some r) ∧ Aside0 (kq ≤ kj25) ∧ Aside0 (wc.heap[gb261]? = some (.cells #[(.slice A0_0 l0_0.length c0_0), .int .u8 a0_1] 24 (0, 0))) ∧ Aside0 (Below w.heap.size w wc))
              case first =>
                have H := HC30.out
                clear HC30
                by_cases c31 : x23_25.toList = t263.toList
                · rw [if_pos c31] at H
                  have c31b0 : (x23_25.toList == t263.toList) = true := beq_iff_eq.mpr c31
                  have c31b1 : (x23_25.toList != t263.toList) = false := bne_eq_false_iff_eq.mpr c31
                  clear c31
                  (first | rw [c31b0] | (simp only [i64_w, i32_w]; rw [c31b0]) | skip)
                  have H' := Aside0.mk H
                  clear H
                  go_wp2
                  go_meet
                  case rel => exact ⟨_, (decide ((t263.size : Int) > 7)), (by first | rfl | (simp; done) | (simp [*]; done)), H', ⟨by have := HJ12.out; have := HJ25.out; first | omega | exact Nat.le_refl _⟩, ⟨by (with_reducible repeat (first | refine blk_drewN ?_ _ | refine blk_drew ?_ | refine blk_alloc ?_ _)); exact BK261.out⟩, ⟨by repeat (first | (with_reducible first | exact HB.out | apply below_alloc | apply pw_below_drewN | apply below_drew1 | refine below_set ?_ GE261.out) | exact HB.out)⟩⟩
                · rw [if_neg c31] at H
                  have c31b0 : (x23_25.toList == t263.toList) = false := beq_eq_false_iff_ne.mpr c31
                  have c31b1 : (x23_25.toList != t263.toList) = true := bne_iff_ne.mpr c31
                  (first | rw [c31b0] | (simp only [i64_w, i32_w]; rw [c31b0]) | skip)
                  have H' := Aside0.mk H
                  clear H
                  go_wp2
                  go_meet
                  case rel => exact ⟨_, (true), (by first | rfl | (simp; done) | (simp [*]; done)), H', ⟨by have := HJ12.out; have := HJ25.out; first | omega | exact Nat.le_refl _⟩, ⟨by (with_reducible repeat (first | refine blk_drewN ?_ _ | refine blk_drew ?_ | refine blk_alloc ?_ _)); exact BK261.out⟩, ⟨by repeat (first | (with_reducible first | exact HB.out | apply below_alloc | apply pw_below_drewN | apply below_drew1 | refine below_set ?_ GE261.out) | exact HB.out)⟩⟩
              case rest =>
                clear HC30
                try clear c1
                try clear c2
                try clear p2
                try clear c3
                try clear c5
                try clear p6
                try clear c8
                try clear c11
                try clear c12
                try clear c18
                try clear c18b0
                try clear c18b1
                try clear c19
                try clear c19b0
                try clear c19b1
                try clear c20
                try clear c20b0
                try clear c20b1
                try clear c21
                try clear c21b0
                try clear c21b1
                try clear c22
                try clear c22b0
                try clear c22b1
                try clear c23
                try clear c23b0
                try clear c23b1
                try clear c24
                try clear c24b0
                try clear c24b1
                try clear c25
                try clear c27
                try clear c27b0
                try clear c28
                try clear c28b0
                try clear c29
                try clear c29b0
                try clear c29b1
                try clear c29b2
                try clear c31
                try clear c31b0
                try clear c31b1
                try clear hcz16_0
                try clear hcz16_1
                try clear hfz16_0
                try clear hfz16_1
                try clear p2
                try clear p6
                obtain ⟨kq, x128_29, rfl, HA, HJ29, BK261, HB⟩ := hcut
                cases kq with
                | zero => exact absurd HA.out (by simp [schismalaw34_WordLaws.j3])
                | succ kj29 =>
                  have H := HA.out
                  clear HA
                  simp only [schismalaw34_WordLaws.j3] at H
                  by_cases c32 : x128_29 = true
                  · subst c32
                    have H1 : (some (x23_25.toList == t263.toList)) = some r := by rw [if_pos rfl] at H; exact H
                    clear H
                    have H := H1
                    clear H1
                    obtain rfl := Option.some.inj H
                    go_wp2
                    go_ret
                    exact ⟨by first | rfl | (simp [errW_none, errW_some] <;> rfl) | (simp [*, errW_none, errW_some] <;> rfl), by repeat (first | (with_reducible first | exact HB.out | apply below_alloc | apply pw_below_drewN | apply below_drew1 | refine below_set ?_ GE261.out) | exact HB.out)⟩
                  · replace c32 := Bool.eq_false_iff.mpr c32
                    subst c32
                    have H1 : ((word_Counts.f kj29 t263).bind fun bt279 => ((word_Necklaces.f bt279.1).bind fun bt283 => (schismalaw34_WordLaws.l1 kj29 t270 bt279.2 bt283.1 bt283.2 0 0))) = some r := by rw [if_neg (show ¬ (false = true) by decide)] at H; exact H
                    clear H
                    have H := H1
                    clear H1
                    replace H := Option.bind_eq_some_iff.mp H
                    obtain ⟨⟨t279, t280⟩, A330, H⟩ := H
                    replace H : ((word_Necklaces.f t279).bind fun bt283 => (schismalaw34_WordLaws.l1 kj29 t270 t280 bt283.1 bt283.2 0 0)) = some r := H
                    have A33 := Aside0.mk A330
                    clear A330
                    replace H := Option.bind_eq_some_iff.mp H
                    obtain ⟨⟨t283, t284⟩, A340, H⟩ := H
                    replace H : (schismalaw34_WordLaws.l1 kj29 t270 t280 t283 t284 0 0) = some r := H
                    have A34 := Aside0.mk A340
                    clear A340
                    have H' := Aside0.mk H
                    clear H
                    go_wp2_with (first | ((with_reducible refine gate_callee (f := 26) rfl ?_); refine goesL_ (some 134) rfl rfl Try.func26 (by kernel_rfl) rfl #[.string t263] rfl (by (try simp only [List.map_toArray, List.map_cons, List.map_nil]); first | done | rfl | (simp only [List.length_drop, List.length_take]; rfl)) ?_; (with_reducible refine (word_Counts.calls kj29 t263 t279 t280 _ A33.out).mono ?_); rintro e w35 ⟨v281, rfl, ho0, hb⟩; refine ⟨_, rfl, ?_⟩; have n0_ := Aside0.mk (Kd.R_lower ho0 (below_size (by repeat (first | (with_reducible first | exact HB.out | apply below_alloc | apply pw_below_drewN | apply below_drew1 | refine below_set ?_ GE261.out) | exact HB.out)))); have n1_ := Aside0.mk (blk_below (g := gb261) (o := .cells #[.slice A0_0 l0_0.length c0_0, .int .u8 a0_1] 24 (0, 0)) (by (with_reducible repeat (first | refine blk_drewN ?_ _ | refine blk_drew ?_ | refine blk_alloc ?_ _)); exact BK261.out) hb); have n2_ := Aside0.mk (below_step (by repeat (first | (with_reducible first | exact HB.out | apply below_alloc | apply pw_below_drewN | apply below_drew1 | refine below_set ?_ GE261.out) | exact HB.out)) hb); clear BK261; clear HB; have HO282 := n0_; have BK261 := n1_; have HB := n2_; clear n0_ n1_ n2_; (try clear hb); (try clear hb2); (try clear hk); (try clear hi); (try clear ho0); obtain ⟨Ao36, co36, eo36⟩ := Kd.R_slice HO282.out; subst eo36) | ((with_reducible refine gate_callee (f := 17) rfl ?_); refine goesL_ (some 139) rfl rfl Try.func17 (by kernel_rfl) rfl #[.slice Ao36 t279.length co36] rfl (by (try simp only [List.map_toArray, List.map_cons, List.map_nil]); first | done | rfl | (simp only [List.length_drop, List.length_take]; rfl)) ?_; (with_reducible refine (word_Necklaces.calls _ _ t279 t283 t284 _ ?side1 ?side2 A34.out).mono ?_); (case side1 => repeat (first | exact (Kd.R_reads' HO282.out).2.2 | (with_reducible refine Kd.C_alloc ?_ _) | (with_reducible refine Kd.C_drewN ?_ _) | (with_reducible refine Kd.C_drew ?_))); (case side2 => exact (Kd.R_reads' HO282.out).2.1); rintro e w37 ⟨v285, rfl, ho0, hb⟩; refine ⟨_, rfl, ?_⟩; have n0_ := Aside0.mk (Kd.R_below (by (with_reducible repeat (first | apply Kd.R_alloc | apply Kd.R_drewN | apply Kd.R_drew)); exact HO282.out) hb); have n1_ := Aside0.mk (Kd.R_lower ho0 (below_size (by repeat (first | (with_reducible first | exact HB.out | apply below_alloc | apply pw_below_drewN | apply below_drew1 | refine below_set ?_ GE261.out) | exact HB.out)))); have n2_ := Aside0.mk (blk_below (g := gb261) (o := .cells #[.slice A0_0 l0_0.length c0_0, .int .u8 a0_1] 24 (0, 0)) (by (with_reducible repeat (first | refine blk_drewN ?_ _ | refine blk_drew ?_ | refine blk_alloc ?_ _)); exact BK261.out) hb); have n3_ := Aside0.mk (below_step (by repeat (first | (with_reducible first | exact HB.out | apply below_alloc | apply pw_below_drewN | apply below_drew1 | refine below_set ?_ GE261.out) | exact HB.out)) hb); clear HO282; clear BK261; clear HB; have HO282 := n0_; have HO286 := n1_; have BK261 := n2_; have HB := n3_; clear n0_ n1_ n2_ n3_; (try clear hb); (try clear hb2); (try clear hk); (try clear hi); (try clear ho0)))
                    go_loopg [29, 30] kj29 (fun kq v29 v30 w' => ∃ (x29_4 : Int) (x30_4 : Int), v29 = .int .i64 x29_4 ∧ v30 = .int .i64 x30_4 ∧ Aside0 (schismalaw34_WordLaws.l1 kq t270 t280 t283 t284 x29_4 x30_4 = some r) ∧ Aside0 (kq ≤ kj29) ∧ Aside0 (Kd.R Kd.string 9 w' w.heap.size (fun _ => True) v285 t283) ∧ Aside0 (w'.heap[gb261]? = some (.cells #[(.slice A0_0 l0_0.length c0_0), .int .u8 a0_1] 24 (0, 0))) ∧ Aside0 (Below w.heap.size w w'))
                    case atStart => exact ⟨(0), (0), (by first | rfl | (simp; done) | (simp [*]; done)), (by first | rfl | (simp; done) | (simp [*]; done)), H', ⟨Nat.le_refl _⟩, ⟨by (with_reducible repeat (first | apply Kd.R_alloc | apply Kd.R_drewN | apply Kd.R_drew)); exact HO286.out⟩, ⟨by (with_reducible repeat (first | refine blk_drewN ?_ _ | refine blk_drew ?_ | refine blk_alloc ?_ _)); exact BK261.out⟩, ⟨by repeat (first | (with_reducible first | exact HB.out | apply below_alloc | apply pw_below_drewN | apply below_drew1 | refine below_set ?_ GE261.out) | exact HB.out)⟩⟩
                    case round =>
                      clear H'
                      try clear c1
                      try clear c2
                      try clear p2
                      try clear c3
                      try clear c5
                      try clear p6
                      try clear c8
                      try clear c11
                      try clear c12
                      try clear c17
                      try clear c18
                      try clear c18b0
                      try clear c18b1
                      try clear c19
                      try clear c19b0
                      try clear c19b1
                      try clear c20
                      try clear c20b0
                      try clear c20b1
                      try clear c21
                      try clear c21b0
                      try clear c21b1
                      try clear c22
                      try clear c22b0
                      try clear c22b1
                      try clear c23
                      try clear c23b0
                      try clear c23b1
                      try clear c24
                      try clear c24b0
                      try clear c24b1
                      try clear c25
                      try clear c26
                      try clear c27
                      try clear c27b0
                      try clear c28
                      try clear c28b0
                      try clear c29
                      try clear c29b0
                      try clear c29b1
                      try clear c29b2
                      try clear c31
                      try clear c31b0
                      try clear c31b1
                      try clear c32
                      try clear hcz16_0
                      try clear hcz16_1
                      try clear hfz16_0
                      try clear hfz16_1
                      try clear p2
                      try clear p6
                      obtain ⟨x29_4, x30_4, rfl, rfl, HA, HK4, HO_27, BK261, HB⟩ := hrel
                      cases gk with
                      | zero => exact absurd HA.out (by simp [schismalaw34_WordLaws.l1])
                      | succ k4 =>
                        have H := HA.out
                        clear HA
                        simp only [schismalaw34_WordLaws.l1] at H
                        by_cases c38 : x30_4 < (t283.length : Int)
                        · rw [if_pos c38] at H
                          have c38b0 : decide (x30_4 < (t283.length : Int)) = true := decide_eq_true c38
                          clear c38
                          by_cases c39 : 0 ≤ x30_4
                          · rw [if_pos c39] at H
                            have c39b0 : decide (0 ≤ x30_4) = true := decide_eq_true c39
                            clear c39
                            by_cases c40 : (rdOf ByteArray.empty t283 x30_4).toList = t270.toList
                            · rw [if_pos c40] at H
                              have c40b0 : ((rdOf ByteArray.empty t283 x30_4).toList == t270.toList) = true := beq_iff_eq.mpr c40
                              have c40b1 : ((rdOf ByteArray.empty t283 x30_4).toList != t270.toList) = false := bne_eq_false_iff_eq.mpr c40
                              clear c40
                              have H' := Aside0.mk H
                              clear H
                              obtain ⟨Ao41, co41, eo41⟩ := Kd.R_slice HO_27.out
                              subst eo41
                              have p287 : 0 ≤ (x30_4 : Int) := of_decide_eq_true (by first | (with_reducible assumption) | assumption)
                              have q287 : x30_4 < (t283.length : Int) := of_decide_eq_true (by first | (with_reducible assumption) | assumption)
                              obtain ⟨ad287, e287, hx287_0⟩ := Kd.at_string (Kd.R_reads' HO_27.out).2.2 x30_4 p287 q287
                              cases e287
                              replace p287 := eq_true p287
                              replace q287 := eq_true q287
                              go_wp2
                              go_roundg k4
                              case measure => have := HJ12.out; have := HJ25.out; have := HJ29.out; have := HK4.out; omega
                              case rel => exact ⟨(wrap64 (x29_4 + 1)), (wrap64 (x30_4 + 1)), (by first | rfl | (simp; done) | (simp [*]; done)), (by first | rfl | (simp; done) | (simp [*]; done)), H', ⟨by have := HJ12.out; have := HJ25.out; have := HJ29.out; have := HK4.out; omega⟩, ⟨by (with_reducible repeat (first | apply Kd.R_alloc | apply Kd.R_drewN | apply Kd.R_drew)); exact HO_27.out⟩, ⟨by (with_reducible repeat (first | refine blk_drewN ?_ _ | refine blk_drew ?_ | refine blk_alloc ?_ _)); exact BK261.out⟩, ⟨by repeat (first | (with_reducible first | exact HB.out | apply below_alloc | apply pw_below_drewN | apply below_drew1 | refine below_set ?_ GE261.out) | exact HB.out)⟩⟩
                            · rw [if_neg c40] at H
                              have c40b0 : ((rdOf ByteArray.empty t283 x30_4).toList == t270.toList) = false := beq_eq_false_iff_ne.mpr c40
                              have c40b1 : ((rdOf ByteArray.empty t283 x30_4).toList != t270.toList) = true := bne_iff_ne.mpr c40
                              have H' := Aside0.mk H
                              clear H
                              obtain ⟨Ao42, co42, eo42⟩ := Kd.R_slice HO_27.out
                              subst eo42
                              have p287 : 0 ≤ (x30_4 : Int) := of_decide_eq_true (by first | (with_reducible assumption) | assumption)
                              have q287 : x30_4 < (t283.length : Int) := of_decide_eq_true (by first | (with_reducible assumption) | assumption)
                              obtain ⟨ad287, e287, hx287_0⟩ := Kd.at_string (Kd.R_reads' HO_27.out).2.2 x30_4 p287 q287
                              cases e287
                              replace p287 := eq_true p287
                              replace q287 := eq_true q287
                              go_wp2
                              go_roundg k4
                              case measure => have := HJ12.out; have := HJ25.out; have := HJ29.out; have := HK4.out; omega
                              case rel => exact ⟨(x29_4), (wrap64 (x30_4 + 1)), (by first | rfl | (simp; done) | (simp [*]; done)), (by first | rfl | (simp; done) | (simp [*]; done)), H', ⟨by have := HJ12.out; have := HJ25.out; have := HJ29.out; have := HK4.out; omega⟩, ⟨by (with_reducible repeat (first | apply Kd.R_alloc | apply Kd.R_drewN | apply Kd.R_drew)); exact HO_27.out⟩, ⟨by (with_reducible repeat (first | refine blk_drewN ?_ _ | refine blk_drew ?_ | refine blk_alloc ?_ _)); exact BK261.out⟩, ⟨by repeat (first | (with_reducible first | exact HB.out | apply below_alloc | apply pw_below_drewN | apply below_drew1 | refine below_set ?_ GE261.out) | exact HB.out)⟩⟩
                          · rw [if_neg c39] at H
                            exact absurd H (by simp)
                        · rw [if_neg c38] at H
                          have c38b0 : decide (x30_4 < (t283.length : Int)) = false := decide_eq_false c38
                          clear c38
                          by_cases c43 : t280 = 0
                          · rw [if_pos c43] at H
                            have c43b0 : (t280 == 0) = true := beq_iff_eq.mpr c43
                            have c43b1 : (t280 != 0) = false := bne_eq_false_iff_eq.mpr c43
                            clear c43
                            by_cases c44 : t284 = 0
                            · rw [if_pos c44] at H
                              have c44b0 : (t284 == 0) = true := beq_iff_eq.mpr c44
                              have c44b1 : (t284 != 0) = false := bne_eq_false_iff_eq.mpr c44
                              clear c44
                              obtain rfl := Option.some.inj H
                              obtain ⟨Ao45, co45, eo45⟩ := Kd.R_slice HO_27.out
                              subst eo45
                              go_wp2
                              go_ret
                              exact ⟨by first | rfl | (simp [errW_none, errW_some] <;> rfl) | (simp [*, errW_none, errW_some] <;> rfl), by repeat (first | (with_reducible first | exact HB.out | apply below_alloc | apply pw_below_drewN | apply below_drew1 | refine below_set ?_ GE261.out) | exact HB.out)⟩
                            · rw [if_neg c44] at H
                              have c44b0 : (t284 == 0) = false := beq_eq_false_iff_ne.mpr c44
                              have c44b1 : (t284 != 0) = true := bne_iff_ne.mpr c44
                              obtain rfl := Option.some.inj H
                              obtain ⟨Ao46, co46, eo46⟩ := Kd.R_slice HO_27.out
                              subst eo46
                              go_wp2
                              go_ret
                              exact ⟨by first | rfl | (simp [errW_none, errW_some] <;> rfl) | (simp [*, errW_none, errW_some] <;> rfl), by repeat (first | (with_reducible first | exact HB.out | apply below_alloc | apply pw_below_drewN | apply below_drew1 | refine below_set ?_ GE261.out) | exact HB.out)⟩
                          · rw [if_neg c43] at H
                            have c43b0 : (t280 == 0) = false := beq_eq_false_iff_ne.mpr c43
                            have c43b1 : (t280 != 0) = true := bne_iff_ne.mpr c43
                            obtain rfl := Option.some.inj H
                            obtain ⟨Ao47, co47, eo47⟩ := Kd.R_slice HO_27.out
                            subst eo47
                            go_wp2
                            go_ret
                            exact ⟨by first | rfl | (simp [errW_none, errW_some] <;> rfl) | (simp [*, errW_none, errW_some] <;> rfl), by repeat (first | (with_reducible first | exact HB.out | apply below_alloc | apply pw_below_drewN | apply below_drew1 | refine below_set ?_ GE261.out) | exact HB.out)⟩
  · replace c5 := Bool.eq_false_iff.mpr c5
    subst c5
    have H1 : (some false) = some r := by rw [if_neg (show ¬ (false = true) by decide)] at H; exact H
    clear H
    have H := H1
    clear H1
    obtain rfl := Option.some.inj H
    go_enter Try.func8, Try.ntmps8
    go_wp2_with (first | ((with_reducible refine gate_dst (N := 3) rfl ?_); (try (refine gate_guard (by rfl) ?_; dsimp only)); refine box_event ?hg (N := 3) ?hd (cs := #[.slice A0_0 l0_0.length c0_0, .int .u8 a0_1]) (t := 24) ?hr ?_; (case hd => rfl); (case hg => rfl); (case hr => first | (go_simp; done) | (go_simp; rfl)); intro gb261 hg w48 hbox hb; have n0_ := Aside0.mk (below_step (by repeat (first | (with_reducible first | exact HB.out | apply below_alloc | apply pw_below_drewN | apply below_drew1) | exact HB.out)) hb); have n1_ := Aside0.mk (hbox); have n2_ := Aside0.mk ((by rw [hg]; exact (below_size (by repeat (first | (with_reducible first | exact HB.out | apply below_alloc | apply pw_below_drewN | apply below_drew1) | exact HB.out))) : w.heap.size ≤ gb261)); have n3_ := Aside0.mk ((by rw [hg]; exact (below_size (by repeat (first | (with_reducible first | exact HB.out | apply below_alloc | apply pw_below_drewN | apply below_drew1) | exact HB.out))) : w.heap.size ≤ gb261)); clear HB; have HB := n0_; have BK261 := n1_; have GW261 := n2_; have GE261 := n3_; clear n0_ n1_ n2_ n3_; clear hb hbox hg) | ((with_reducible refine gate_callee (f := 11) rfl ?_); refine goesL_ (some 31) rfl rfl Try.func11 (by kernel_rfl) rfl #[] rfl (by (try simp only [List.map_toArray, List.map_cons, List.map_nil]); first | done | rfl | (simp only [List.length_drop, List.length_take]; rfl)) ?_; (with_reducible refine (schismalaw34_known.calls k  false _ A4.out).mono ?_); rintro e w49 ⟨rfl, hb⟩; refine ⟨_, rfl, ?_⟩; have n0_ := Aside0.mk (blk_below (g := gb261) (o := .cells #[.slice A0_0 l0_0.length c0_0, .int .u8 a0_1] 24 (0, 0)) (by (with_reducible repeat (first | refine blk_drewN ?_ _ | refine blk_drew ?_ | refine blk_alloc ?_ _)); exact BK261.out) hb); have n1_ := Aside0.mk (below_step (by repeat (first | (with_reducible first | exact HB.out | apply below_alloc | apply pw_below_drewN | apply below_drew1 | refine below_set ?_ GE261.out) | exact HB.out)) hb); clear BK261; clear HB; have BK261 := n0_; have HB := n1_; clear n0_ n1_; (try clear hb); (try clear hb2); (try clear hk); (try clear hi)))
    go_ret
    exact ⟨by first | rfl | (simp [errW_none, errW_some] <;> rfl) | (simp [*, errW_none, errW_some] <;> rfl), by repeat (first | (with_reducible first | exact HB.out | apply below_alloc | apply pw_below_drewN | apply below_drew1 | refine below_set ?_ GE261.out) | exact HB.out)⟩

end Go.Proofs.Ytpommkpgiogjgaa.X
