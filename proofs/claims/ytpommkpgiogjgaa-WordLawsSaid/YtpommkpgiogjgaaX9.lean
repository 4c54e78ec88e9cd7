-- Printed by a program of this session's (the kit's print, told of functions proved by hand). Not trusted: Lean checks it.
import Derived.Test.YtpommkpgiogjgaaX0
import Derived.Test.YtpommkpgiogjgaaX2
import Derived.Test.YtpommkpgiogjgaaX4
import Derived.Test.YtpommkpgiogjgaaX6
import Derived.Test.YtpommkpgiogjgaaESame
namespace Go.Proofs.Ytpommkpgiogjgaa.X
open Go.RowKit Go.Proofs.YtpommkpgiogjgaaW.PrintWords Go.Proofs.YtpommkpgiogjgaaW.PrintLast Go.Proofs.YtpommkpgiogjgaaW.PrintMore
attribute [local go_sem] max2_int min2_int max_two min_two max_three min_three max_four min_four   -- for this text's walks alone
set_option linter.unusedVariables false
set_option linter.unusedSimpArgs false

/-! ### schismalaw34_WordRotations: function 7 -/
mutual
def schismalaw34_WordRotations.j0 : Nat → ByteArray → ByteArray → ByteArray → Int → Int → Bool → ByteArray → Int → Bool → Option (Bool)
  | 0, _, _, _, _, _, _, _, _, _ => none
  | k + 1, x5, x6, x7, x8, x10, x11, x13, x14, x56 => if x56 = true then (some false) else ((schismalaw34_least.f k x5).bind fun bt249 => (if x7.toList = bt249.1.toList then (schismalaw34_WordRotations.j1 k x5 x6 x10 x11 x13 x14 (x8 != bt249.2)) else (schismalaw34_WordRotations.j1 k x5 x6 x10 x11 x13 x14 true)))
def schismalaw34_WordRotations.j1 : Nat → ByteArray → ByteArray → Int → Bool → ByteArray → Int → Bool → Option (Bool)
  | 0, _, _, _, _, _, _, _ => none
  | k + 1, x5, x6, x10, x11, x13, x14, x69 => if x69 = true then (some false) else (schismalaw34_WordRotations.l0 k x5 x6 x10 x11 x13 x14 0 false (wrap64 ((x5.size : Int) - 1)))
def schismalaw34_WordRotations.l0 : Nat → ByteArray → ByteArray → Int → Bool → ByteArray → Int → Int → Bool → Int → Option (Bool)
  | 0, _, _, _, _, _, _, _, _, _ => none
  | k + 1, x5, x6, x10, x11, x13, x14, x18, x19, x20 => if x20 ≥ 0 then ((schismalaw34_rotate.f x5 x20).bind fun t251 => (if t251.toList = x6.toList then (schismalaw34_WordRotations.l0 k x5 x6 x10 x11 x13 x14 x20 true (wrap64 (x20 - 1))) else (schismalaw34_WordRotations.l0 k x5 x6 x10 x11 x13 x14 x18 x19 (wrap64 (x20 - 1))))) else (schismalaw34_WordRotations.l1 k x5 x10 x11 x13 x14 x18 x19 1)
def schismalaw34_WordRotations.l1 : Nat → ByteArray → Int → Bool → ByteArray → Int → Int → Bool → Int → Option (Bool)
  | 0, _, _, _, _, _, _, _, _ => none
  | k + 1, x5, x10, x11, x13, x14, x18, x19, x21 => (schismalaw34_rotate.f x5 x21).bind fun t252 => (if t252.toList = x5.toList then (if x10 = x18 then (if (x11 == x19) = true then (if 0 ≤ x21 then (if x21 ≤ (x5.size : Int) then (if x13.toList = (x5.extract 0 (x21 : Int).toNat).toList then (if x21 = 0 then (none) else (some (x14 == (wrap64 ((x5.size : Int) / x21))))) else (some false)) else (none)) else (none)) else (some false)) else (some false)) else (schismalaw34_WordRotations.l1 k x5 x10 x11 x13 x14 x18 x19 (wrap64 (x21 + 1))))
end
def schismalaw34_WordRotations.f (k : Nat) (l0_0 : List Int) (a0_1 : Int) (l1_0 : List Int) (a1_1 : Int) : Option (Bool) := (schismalaw34_known.f k).bind fun t237 => (if t237 = true then ((schismalaw34_Make.f k l0_0 a0_1).bind fun t238 => ((schismalaw34_Make.f k l1_0 a1_1).bind fun t239 => ((word_Least.f k t238).bind fun bt240 => ((word_Same.f k t238 t239).bind fun bt243 => ((word_Primitive.f k t238).bind fun bt246 => (if bt240.2.2 = 0 then (if bt243.2.2 = 0 then (schismalaw34_WordRotations.j0 k t238 t239 bt240.1 bt240.2.1 bt243.1 bt243.2.1 bt246.1 bt246.2.1 (bt246.2.2 != 0)) else (schismalaw34_WordRotations.j0 k t238 t239 bt240.1 bt240.2.1 bt243.1 bt243.2.1 bt246.1 bt246.2.1 true)) else (schismalaw34_WordRotations.j0 k t238 t239 bt240.1 bt240.2.1 bt243.1 bt243.2.1 bt246.1 bt246.2.1 true))))))) else (some false))
theorem schismalaw34_WordRotations.mono_l : ∀ k, (∀ y0 y1 y2 y3 y4 y5 y6 y7 y8, LeO (schismalaw34_WordRotations.j0 k y0 y1 y2 y3 y4 y5 y6 y7 y8) (schismalaw34_WordRotations.j0 (k + 1) y0 y1 y2 y3 y4 y5 y6 y7 y8)) ∧ (∀ y0 y1 y2 y3 y4 y5 y6, LeO (schismalaw34_WordRotations.j1 k y0 y1 y2 y3 y4 y5 y6) (schismalaw34_WordRotations.j1 (k + 1) y0 y1 y2 y3 y4 y5 y6)) ∧ (∀ y0 y1 y2 y3 y4 y5 y6 y7 y8, LeO (schismalaw34_WordRotations.l0 k y0 y1 y2 y3 y4 y5 y6 y7 y8) (schismalaw34_WordRotations.l0 (k + 1) y0 y1 y2 y3 y4 y5 y6 y7 y8)) ∧ (∀ y0 y1 y2 y3 y4 y5 y6 y7, LeO (schismalaw34_WordRotations.l1 k y0 y1 y2 y3 y4 y5 y6 y7) (schismalaw34_WordRotations.l1 (k + 1) y0 y1 y2 y3 y4 y5 y6 y7))
  | 0 => ⟨fun _ _ _ _ _ _ _ _ _ r h => by simp [schismalaw34_WordRotations.j0] at h, fun _ _ _ _ _ _ _ r h => by simp [schismalaw34_WordRotations.j1] at h, fun _ _ _ _ _ _ _ _ _ r h => by simp [schismalaw34_WordRotations.l0] at h, fun _ _ _ _ _ _ _ _ r h => by simp [schismalaw34_WordRotations.l1] at h⟩
  | k + 1 => by
    obtain ⟨ih0, ih1, ih2, ih3⟩ := schismalaw34_WordRotations.mono_l k
    refine ⟨?_, ?_, ?_, ?_⟩
    · intro y0 y1 y2 y3 y4 y5 y6 y7 y8
      unfold schismalaw34_WordRotations.j0
      repeat' first
      | (with_reducible exact ih0 _ _ _ _ _ _ _ _ _)
      | (with_reducible exact ih1 _ _ _ _ _ _ _)
      | (with_reducible exact ih2 _ _ _ _ _ _ _ _ _)
      | (with_reducible exact ih3 _ _ _ _ _ _ _ _)
      | (with_reducible exact schismalaw34_Make.mono _ _ _)
      | (with_reducible exact schismalaw34_known.mono _)
      | (with_reducible exact schismalaw34_least.mono _ _)
      | (with_reducible exact word_Least.mono _ _)
      | (with_reducible exact word_Primitive.mono _ _)
      | (with_reducible exact word_Same.mono _ _ _)
      | (with_reducible exact LeO.refl _)
      | (with_reducible exact LeO.none _)
      | (with_reducible refine LeO.ite ?_ ?_)
      | (with_reducible refine LeO.bind ?_ (fun _ => ?_))
      | exact ih0 _ _ _ _ _ _ _ _ _
      | exact ih1 _ _ _ _ _ _ _
      | exact ih2 _ _ _ _ _ _ _ _ _
      | exact ih3 _ _ _ _ _ _ _ _
      | exact schismalaw34_Make.mono _ _ _
      | exact schismalaw34_known.mono _
      | exact schismalaw34_least.mono _ _
      | exact word_Least.mono _ _
      | exact word_Primitive.mono _ _
      | exact word_Same.mono _ _ _
      | exact LeO.none _
      | refine LeO.ite ?_ ?_
      | refine LeO.bind ?_ (fun _ => ?_)
    · intro y0 y1 y2 y3 y4 y5 y6
      unfold schismalaw34_WordRotations.j1
      repeat' first
      | (with_reducible exact ih0 _ _ _ _ _ _ _ _ _)
      | (with_reducible exact ih1 _ _ _ _ _ _ _)
      | (with_reducible exact ih2 _ _ _ _ _ _ _ _ _)
      | (with_reducible exact ih3 _ _ _ _ _ _ _ _)
      | (with_reducible exact schismalaw34_Make.mono _ _ _)
      | (with_reducible exact schismalaw34_known.mono _)
      | (with_reducible exact schismalaw34_least.mono _ _)
      | (with_reducible exact word_Least.mono _ _)
      | (with_reducible exact word_Primitive.mono _ _)
      | (with_reducible exact word_Same.mono _ _ _)
      | (with_reducible exact LeO.refl _)
      | (with_reducible exact LeO.none _)
      | (with_reducible refine LeO.ite ?_ ?_)
      | (with_reducible refine LeO.bind ?_ (fun _ => ?_))
      | exact ih0 _ _ _ _ _ _ _ _ _
      | exact ih1 _ _ _ _ _ _ _
      | exact ih2 _ _ _ _ _ _ _ _ _
      | exact ih3 _ _ _ _ _ _ _ _
      | exact schismalaw34_Make.mono _ _ _
      | exact schismalaw34_known.mono _
      | exact schismalaw34_least.mono _ _
      | exact word_Least.mono _ _
      | exact word_Primitive.mono _ _
      | exact word_Same.mono _ _ _
      | exact LeO.none _
      | refine LeO.ite ?_ ?_
      | refine LeO.bind ?_ (fun _ => ?_)
    · intro y0 y1 y2 y3 y4 y5 y6 y7 y8
      unfold schismalaw34_WordRotations.l0
      repeat' first
      | (with_reducible exact ih0 _ _ _ _ _ _ _ _ _)
      | (with_reducible exact ih1 _ _ _ _ _ _ _)
      | (with_reducible exact ih2 _ _ _ _ _ _ _ _ _)
      | (with_reducible exact ih3 _ _ _ _ _ _ _ _)
      | (with_reducible exact schismalaw34_Make.mono _ _ _)
      | (with_reducible exact schismalaw34_known.mono _)
      | (with_reducible exact schismalaw34_least.mono _ _)
      | (with_reducible exact word_Least.mono _ _)
      | (with_reducible exact word_Primitive.mono _ _)
      | (with_reducible exact word_Same.mono _ _ _)
      | (with_reducible exact LeO.refl _)
      | (with_reducible exact LeO.none _)
      | (with_reducible refine LeO.ite ?_ ?_)
      | (with_reducible refine LeO.bind ?_ (fun _ => ?_))
      | exact ih0 _ _ _ _ _ _ _ _ _
      | exact ih1 _ _ _ _ _ _ _
      | exact ih2 _ _ _ _ _ _ _ _ _
      | exact ih3 _ _ _ _ _ _ _ _
      | exact schismalaw34_Make.mono _ _ _
      | exact schismalaw34_known.mono _
      | exact schismalaw34_least.mono _ _
      | exact word_Least.mono _ _
      | exact word_Primitive.mono _ _
      | exact word_Same.mono _ _ _
      | exact LeO.none _
      | refine LeO.ite ?_ ?_
      | refine LeO.bind ?_ (fun _ => ?_)
    · intro y0 y1 y2 y3 y4 y5 y6 y7
      unfold schismalaw34_WordRotations.l1
      repeat' first
      | (with_reducible exact ih0 _ _ _ _ _ _ _ _ _)
      | (with_reducible exact ih1 _ _ _ _ _ _ _)
      | (with_reducible exact ih2 _ _ _ _ _ _ _ _ _)
      | (with_reducible exact ih3 _ _ _ _ _ _ _ _)
      | (with_reducible exact schismalaw34_Make.mono _ _ _)
      | (with_reducible exact schismalaw34_known.mono _)
      | (with_reducible exact schismalaw34_least.mono _ _)
      | (with_reducible exact word_Least.mono _ _)
      | (with_reducible exact word_Primitive.mono _ _)
      | (with_reducible exact word_Same.mono _ _ _)
      | (with_reducible exact LeO.refl _)
      | (with_reducible exact LeO.none _)
      | (with_reducible refine LeO.ite ?_ ?_)
      | (with_reducible refine LeO.bind ?_ (fun _ => ?_))
      | exact ih0 _ _ _ _ _ _ _ _ _
      | exact ih1 _ _ _ _ _ _ _
      | exact ih2 _ _ _ _ _ _ _ _ _
      | exact ih3 _ _ _ _ _ _ _ _
      | exact schismalaw34_Make.mono _ _ _
      | exact schismalaw34_known.mono _
      | exact schismalaw34_least.mono _ _
      | exact word_Least.mono _ _
      | exact word_Primitive.mono _ _
      | exact word_Same.mono _ _ _
      | exact LeO.none _
      | refine LeO.ite ?_ ?_
      | refine LeO.bind ?_ (fun _ => ?_)
theorem schismalaw34_WordRotations.mono : ∀ a0 a1 a2 a3 k, LeO (schismalaw34_WordRotations.f k a0 a1 a2 a3) (schismalaw34_WordRotations.f (k + 1) a0 a1 a2 a3) := by
  intro a0 a1 a2 a3 k
  obtain ⟨ih0, ih1, ih2, ih3⟩ := schismalaw34_WordRotations.mono_l k
  unfold schismalaw34_WordRotations.f
  repeat' first
      | (with_reducible exact ih0 _ _ _ _ _ _ _ _ _)
      | (with_reducible exact ih1 _ _ _ _ _ _ _)
      | (with_reducible exact ih2 _ _ _ _ _ _ _ _ _)
      | (with_reducible exact ih3 _ _ _ _ _ _ _ _)
      | (with_reducible exact schismalaw34_Make.mono _ _ _)
      | (with_reducible exact schismalaw34_known.mono _)
      | (with_reducible exact schismalaw34_least.mono _ _)
      | (with_reducible exact word_Least.mono _ _)
      | (with_reducible exact word_Primitive.mono _ _)
      | (with_reducible exact word_Same.mono _ _ _)
      | (with_reducible exact LeO.refl _)
      | (with_reducible exact LeO.none _)
      | (with_reducible refine LeO.ite ?_ ?_)
      | (with_reducible refine LeO.bind ?_ (fun _ => ?_))
      | exact ih0 _ _ _ _ _ _ _ _ _
      | exact ih1 _ _ _ _ _ _ _
      | exact ih2 _ _ _ _ _ _ _ _ _
      | exact ih3 _ _ _ _ _ _ _ _
      | exact schismalaw34_Make.mono _ _ _
      | exact schismalaw34_known.mono _
      | exact schismalaw34_least.mono _ _
      | exact word_Least.mono _ _
      | exact word_Primitive.mono _ _
      | exact word_Same.mono _ _ _
      | exact LeO.none _
      | refine LeO.ite ?_ ?_
      | refine LeO.bind ?_ (fun _ => ?_)
set_option maxHeartbeats 8000000 in
set_option maxRecDepth 100000 in
theorem schismalaw34_WordRotations.calls (k : Nat) (A0_0 : Option Addr) (c0_0 : Nat) (l0_0 : List Int) (a0_1 : Int) (A1_0 : Option Addr) (c1_0 : Nat) (l1_0 : List Int) (a1_1 : Int) (r : Bool) (w : World) (hr0_0 : Kd.C (Kd.int .u8) w A0_0 l0_0.length l0_0) (hc0_0 : l0_0.length ≤ c0_0) (hr1_0 : Kd.C (Kd.int .u8) w A1_0 l1_0.length l1_0) (hc1_0 : l1_0.length ≤ c1_0) (h : schismalaw34_WordRotations.f k l0_0 a0_1 l1_0 a1_1 = some r) :
    Calls Try.prog 7 #[.agg #[.slice A0_0 l0_0.length c0_0, .int .u8 a0_1], .agg #[.slice A1_0 l1_0.length c1_0, .int .u8 a1_1]] w fun e w' => e = .returned (.bool r) ∧ Below w.heap.size w w' := by
  have hu24 := Try.underlying24
  have HR0_0 := Aside0.mk hr0_0
  have HC0_0 := Aside0.mk hc0_0
  clear hr0_0 hc0_0
  have HR1_0 := Aside0.mk hr1_0
  have HC1_0 := Aside0.mk hc1_0
  clear hr1_0 hc1_0
  have HB := Aside0.mk (Below.refl w.heap.size w)
  have H : ((schismalaw34_known.f k).bind fun t237 => (if t237 = true then ((schismalaw34_Make.f k l0_0 a0_1).bind fun t238 => ((schismalaw34_Make.f k l1_0 a1_1).bind fun t239 => ((word_Least.f k t238).bind fun bt240 => ((word_Same.f k t238 t239).bind fun bt243 => ((word_Primitive.f k t238).bind fun bt246 => (if bt240.2.2 = 0 then (if bt243.2.2 = 0 then (schismalaw34_WordRotations.j0 k t238 t239 bt240.1 bt240.2.1 bt243.1 bt243.2.1 bt246.1 bt246.2.1 (bt246.2.2 != 0)) else (schismalaw34_WordRotations.j0 k t238 t239 bt240.1 bt240.2.1 bt243.1 bt243.2.1 bt246.1 bt246.2.1 true)) else (schismalaw34_WordRotations.j0 k t238 t239 bt240.1 bt240.2.1 bt243.1 bt243.2.1 bt246.1 bt246.2.1 true))))))) else (some false))) = some r := h
  clear h
  replace H := Option.bind_eq_some_iff.mp H
  obtain ⟨t237, A30, H⟩ := H
  replace H : (if t237 = true then ((schismalaw34_Make.f k l0_0 a0_1).bind fun t238 => ((schismalaw34_Make.f k l1_0 a1_1).bind fun t239 => ((word_Least.f k t238).bind fun bt240 => ((word_Same.f k t238 t239).bind fun bt243 => ((word_Primitive.f k t238).bind fun bt246 => (if bt240.2.2 = 0 then (if bt243.2.2 = 0 then (schismalaw34_WordRotations.j0 k t238 t239 bt240.1 bt240.2.1 bt243.1 bt243.2.1 bt246.1 bt246.2.1 (bt246.2.2 != 0)) else (schismalaw34_WordRotations.j0 k t238 t239 bt240.1 bt240.2.1 bt243.1 bt243.2.1 bt246.1 bt246.2.1 true)) else (schismalaw34_WordRotations.j0 k t238 t239 bt240.1 bt240.2.1 bt243.1 bt243.2.1 bt246.1 bt246.2.1 true))))))) else (some false)) = some r := H
  have A3 := Aside0.mk A30
  clear A30
  by_cases c4 : t237 = true
  · subst c4
    have H1 : ((schismalaw34_Make.f k l0_0 a0_1).bind fun t238 => ((schismalaw34_Make.f k l1_0 a1_1).bind fun t239 => ((word_Least.f k t238).bind fun bt240 => ((word_Same.f k t238 t239).bind fun bt243 => ((word_Primitive.f k t238).bind fun bt246 => (if bt240.2.2 = 0 then (if bt243.2.2 = 0 then (schismalaw34_WordRotations.j0 k t238 t239 bt240.1 bt240.2.1 bt243.1 bt243.2.1 bt246.1 bt246.2.1 (bt246.2.2 != 0)) else (schismalaw34_WordRotations.j0 k t238 t239 bt240.1 bt240.2.1 bt243.1 bt243.2.1 bt246.1 bt246.2.1 true)) else (schismalaw34_WordRotations.j0 k t238 t239 bt240.1 bt240.2.1 bt243.1 bt243.2.1 bt246.1 bt246.2.1 true))))))) = some r := by rw [if_pos rfl] at H; exact H
    clear H
    have H := H1
    clear H1
    replace H := Option.bind_eq_some_iff.mp H
    obtain ⟨t238, A50, H⟩ := H
    replace H : ((schismalaw34_Make.f k l1_0 a1_1).bind fun t239 => ((word_Least.f k t238).bind fun bt240 => ((word_Same.f k t238 t239).bind fun bt243 => ((word_Primitive.f k t238).bind fun bt246 => (if bt240.2.2 = 0 then (if bt243.2.2 = 0 then (schismalaw34_WordRotations.j0 k t238 t239 bt240.1 bt240.2.1 bt243.1 bt243.2.1 bt246.1 bt246.2.1 (bt246.2.2 != 0)) else (schismalaw34_WordRotations.j0 k t238 t239 bt240.1 bt240.2.1 bt243.1 bt243.2.1 bt246.1 bt246.2.1 true)) else (schismalaw34_WordRotations.j0 k t238 t239 bt240.1 bt240.2.1 bt243.1 bt243.2.1 bt246.1 bt246.2.1 true)))))) = some r := H
    have A5 := Aside0.mk A50
    clear A50
    replace H := Option.bind_eq_some_iff.mp H
    obtain ⟨t239, A60, H⟩ := H
    replace H : ((word_Least.f k t238).bind fun bt240 => ((word_Same.f k t238 t239).bind fun bt243 => ((word_Primitive.f k t238).bind fun bt246 => (if bt240.2.2 = 0 then (if bt243.2.2 = 0 then (schismalaw34_WordRotations.j0 k t238 t239 bt240.1 bt240.2.1 bt243.1 bt243.2.1 bt246.1 bt246.2.1 (bt246.2.2 != 0)) else (schismalaw34_WordRotations.j0 k t238 t239 bt240.1 bt240.2.1 bt243.1 bt243.2.1 bt246.1 bt246.2.1 true)) else (schismalaw34_WordRotations.j0 k t238 t239 bt240.1 bt240.2.1 bt243.1 bt243.2.1 bt246.1 bt246.2.1 true))))) = some r := H
    have A6 := Aside0.mk A60
    clear A60
    replace H := Option.bind_eq_some_iff.mp H
    obtain ⟨⟨t240, t241, t242⟩, A70, H⟩ := H
    replace H : ((word_Same.f k t238 t239).bind fun bt243 => ((word_Primitive.f k t238).bind fun bt246 => (if t242 = 0 then (if bt243.2.2 = 0 then (schismalaw34_WordRotations.j0 k t238 t239 t240 t241 bt243.1 bt243.2.1 bt246.1 bt246.2.1 (bt246.2.2 != 0)) else (schismalaw34_WordRotations.j0 k t238 t239 t240 t241 bt243.1 bt243.2.1 bt246.1 bt246.2.1 true)) else (schismalaw34_WordRotations.j0 k t238 t239 t240 t241 bt243.1 bt243.2.1 bt246.1 bt246.2.1 true)))) = some r := H
    have A7 := Aside0.mk A70
    clear A70
    replace H := Option.bind_eq_some_iff.mp H
    obtain ⟨⟨t243, t244, t245⟩, A80, H⟩ := H
    replace H : ((word_Primitive.f k t238).bind fun bt246 => (if t242 = 0 then (if t245 = 0 then (schismalaw34_WordRotations.j0 k t238 t239 t240 t241 t243 t244 bt246.1 bt246.2.1 (bt246.2.2 != 0)) else (schismalaw34_WordRotations.j0 k t238 t239 t240 t241 t243 t244 bt246.1 bt246.2.1 true)) else (schismalaw34_WordRotations.j0 k t238 t239 t240 t241 t243 t244 bt246.1 bt246.2.1 true))) = some r := H
    have A8 := Aside0.mk A80
    clear A80
    replace H := Option.bind_eq_some_iff.mp H
    obtain ⟨⟨t246, t247, t248⟩, A90, H⟩ := H
    replace H : (if t242 = 0 then (if t245 = 0 then (schismalaw34_WordRotations.j0 k t238 t239 t240 t241 t243 t244 t246 t247 (t248 != 0)) else (schismalaw34_WordRotations.j0 k t238 t239 t240 t241 t243 t244 t246 t247 true)) else (schismalaw34_WordRotations.j0 k t238 t239 t240 t241 t243 t244 t246 t247 true)) = some r := H
    have A9 := Aside0.mk A90
    clear A90
    have HC10 := Aside0.mk H
    clear H
    go_enter Try.func7, Try.ntmps7
    try go_wp2_with (first | ((with_reducible refine gate_dst (N := 2) rfl ?_); (try (refine gate_guard (by rfl) ?_; dsimp only)); refine box_event ?hg (N := 2) ?hd (cs := #[.slice A0_0 l0_0.length c0_0, .int .u8 a0_1]) (t := 24) ?hr ?_; (case hd => rfl); (case hg => rfl); (case hr => first | (go_simp; done) | (go_simp; rfl)); intro gb235 hg w11 hbox hb; have n0_ := Aside0.mk (below_step (by repeat (first | (with_reducible first | exact HB.out | apply below_alloc | apply pw_below_drewN | apply below_drew1) | exact HB.out)) hb); have n1_ := Aside0.mk (hbox); have n2_ := Aside0.mk ((by rw [hg]; exact (below_size (by repeat (first | (with_reducible first | exact HB.out | apply below_alloc | apply pw_below_drewN | apply below_drew1) | exact HB.out))) : w.heap.size ≤ gb235)); have n3_ := Aside0.mk ((by rw [hg]; exact (below_size (by repeat (first | (with_reducible first | exact HB.out | apply below_alloc | apply pw_below_drewN | apply below_drew1) | exact HB.out))) : w.heap.size ≤ gb235)); clear HB; have HB := n0_; have BK235 := n1_; have GW235 := n2_; have GE235 := n3_; clear n0_ n1_ n2_ n3_; clear hb hbox hg) | ((with_reducible refine gate_dst (N := 3) rfl ?_); (try (refine gate_guard (by rfl) ?_; dsimp only)); refine box_event ?hg (N := 3) ?hd (cs := #[.slice A1_0 l1_0.length c1_0, .int .u8 a1_1]) (t := 24) ?hr ?_; (case hd => rfl); (case hg => rfl); (case hr => first | (go_simp; done) | (go_simp; rfl)); intro gb236 hg w12 hbox hb; have n0_ := Aside0.mk (blk_below (g := gb235) (o := .cells #[.slice A0_0 l0_0.length c0_0, .int .u8 a0_1] 24 (0, 0)) (by (with_reducible repeat (first | refine blk_drewN ?_ _ | refine blk_drew ?_ | refine blk_alloc ?_ _)); exact BK235.out) hb); have n1_ := Aside0.mk (below_step (by repeat (first | (with_reducible first | exact HB.out | apply below_alloc | apply pw_below_drewN | apply below_drew1 | refine below_set ?_ GE235.out) | exact HB.out)) hb); have n2_ := Aside0.mk (hbox); have n3_ := Aside0.mk ((by rw [hg]; exact (below_size (by repeat (first | (with_reducible first | exact HB.out | apply below_alloc | apply pw_below_drewN | apply below_drew1 | refine below_set ?_ GE235.out) | exact HB.out))) : w.heap.size ≤ gb236)); have n4_ := Aside0.mk ((by rw [hg]; exact (below_size (by repeat (first | (with_reducible first | exact HB.out | apply below_alloc | apply pw_below_drewN | apply below_drew1 | refine below_set ?_ GE235.out) | exact HB.out))) : w.heap.size ≤ gb236)); have n5_ := Aside0.mk ((by rw [hg]; exact Nat.ne_of_lt (blk_lt (g := gb235) (o := .cells #[.slice A0_0 l0_0.length c0_0, .int .u8 a0_1] 24 (0, 0)) (by (with_reducible repeat (first | refine blk_drewN ?_ _ | refine blk_drew ?_ | refine blk_alloc ?_ _)); exact BK235.out)) : gb235 ≠ gb236)); have n6_ := Aside0.mk ((by rw [hg]; exact Nat.ne_of_gt (blk_lt (g := gb235) (o := .cells #[.slice A0_0 l0_0.length c0_0, .int .u8 a0_1] 24 (0, 0)) (by (with_reducible repeat (first | refine blk_drewN ?_ _ | refine blk_drew ?_ | refine blk_alloc ?_ _)); exact BK235.out)) : gb236 ≠ gb235)); clear BK235; clear HB; have BK235 := n0_; have HB := n1_; have BK236 := n2_; have GW236 := n3_; have GE236 := n4_; have NB235_236 := n5_; have NB236_235 := n6_; clear n0_ n1_ n2_ n3_ n4_ n5_ n6_; clear hb hbox hg) | ((with_reducible refine gate_callee (f := 11) rfl ?_); refine goesL_ (some 22) rfl rfl Try.func11 (by kernel_rfl) rfl #[] rfl (by (try simp only [List.map_toArray, List.map_cons, List.map_nil]); first | done | rfl | (simp only [List.length_drop, List.length_take]; rfl)) ?_; (with_reducible refine (schismalaw34_known.calls k  true _ A3.out).mono ?_); rintro e w13 ⟨rfl, hb⟩; refine ⟨_, rfl, ?_⟩; have n0_ := Aside0.mk (blk_below (g := gb235) (o := .cells #[.slice A0_0 l0_0.length c0_0, .int .u8 a0_1] 24 (0, 0)) (by (with_reducible repeat (first | refine blk_drewN ?_ _ | refine blk_drew ?_ | refine blk_alloc ?_ _)); exact BK235.out) hb); have n1_ := Aside0.mk (blk_below (g := gb236) (o := .cells #[.slice A1_0 l1_0.length c1_0, .int .u8 a1_1] 24 (0, 0)) (by (with_reducible repeat (first | refine blk_drewN ?_ _ | refine blk_drew ?_ | refine blk_alloc ?_ _)); exact BK236.out) hb); have n2_ := Aside0.mk (below_step (by repeat (first | (with_reducible first | exact HB.out | apply below_alloc | apply pw_below_drewN | apply below_drew1 | refine below_set ?_ GE235.out | refine below_set ?_ GE236.out) | exact HB.out)) hb); clear BK235; clear BK236; clear HB; have BK235 := n0_; have BK236 := n1_; have HB := n2_; clear n0_ n1_ n2_; (try clear hb); (try clear hb2); (try clear hk); (try clear hi)))
    have n0_ := Aside0.mk (blk_drew BK235.out)
    have n1_ := Aside0.mk (blk_drew BK236.out)
    have n2_ := Aside0.mk (below_drew1 HB.out)
    clear BK235
    clear BK236
    clear HB
    have BK235 := n0_
    have BK236 := n1_
    have HB := n2_
    clear n0_ n1_ n2_
    refine start_ (n := 6) (S := fun w' => w'.cell? ⟨gb235, 0, none⟩ = some (.slice A0_0 l0_0.length c0_0) ∧ w'.cell? ⟨gb235, 1, none⟩ = some (.int .u8 a0_1) ∧ w'.cell? ⟨gb236, 0, none⟩ = some (.slice A1_0 l1_0.length c1_0) ∧ w'.cell? ⟨gb236, 1, none⟩ = some (.int .u8 a1_1)) (ds := []) #[false, false, false, false, false, false] (by kernel_rfl) rfl rfl ⟨(blk_cell BK235.out 0).trans rfl, (blk_cell BK235.out 1).trans rfl, (blk_cell BK236.out 0).trans rfl, (blk_cell BK236.out 1).trans rfl⟩ (fun hHeld => ?_)
    generalize w13.drew = w14 at BK235 BK236 HB hHeld ⊢
    refine take_ (i := 0) (N := some 24) (v := ?_) (a' := ?_) #[true, false, false, false, false, false] rfl rfl (by kernel_rfl) (fun _ _ _ h => h) (Or.inl ⟨by rfl, ?_⟩) hHeld ?_ ?_
    rotate_left
    · rintro w' ⟨s0, s1, s2, s3⟩
      go_simp
      with_reducible rfl
    rotate_left
    · simp only [Act.put, List.setIfInBounds_toArray, List.set_cons_zero, List.set_cons_succ, i64_w, i32_w]
      rfl
    refine take_ (i := 2) (N := some 26) (v := ?_) (a' := ?_) #[true, false, true, false, false, false] rfl rfl (by kernel_rfl) (fun _ _ _ h => h) (Or.inl ⟨by rfl, ?_⟩) hHeld ?_ ?_
    rotate_left
    · rintro w' ⟨s0, s1, s2, s3⟩
      go_simp
      with_reducible rfl
    rotate_left
    · simp only [Act.put, List.setIfInBounds_toArray, List.set_cons_zero, List.set_cons_succ, i64_w, i32_w]
      rfl
    refine one_ (i := 1) (N := some 25) #[true, true, true, false, false, false] rfl rfl (by kernel_rfl) (by decide) (fun K hK => ?_)
    refine goes_ Try.func12 (by kernel_rfl) rfl #[.agg #[.slice A0_0 l0_0.length c0_0, .int .u8 a0_1]] (by rfl) rfl rfl (by (try simp only [List.map_toArray, List.map_cons, List.map_nil]); first | done | rfl | (simp only [List.length_drop, List.length_take]; rfl)) ?_
    with_reducible refine (schismalaw34_Make.calls k _ _ l0_0 a0_1 t238 _ ?side1 ?side2 A5.out).mono ?_
    (case side1 => repeat (first | exact (Kd.C_below HR0_0.out HB.out) | (with_reducible refine Kd.C_alloc ?_ _) | (with_reducible refine Kd.C_drewN ?_ _) | (with_reducible refine Kd.C_drew ?_)))
    (case side2 => exact HC0_0.out)
    rintro e w15 ⟨rfl, hb⟩
    refine ⟨_, rfl, ?_⟩
    have n0_ := Aside0.mk (blk_below (g := gb235) (o := .cells #[.slice A0_0 l0_0.length c0_0, .int .u8 a0_1] 24 (0, 0)) (by (with_reducible repeat (first | refine blk_drewN ?_ _ | refine blk_drew ?_ | refine blk_alloc ?_ _)); exact BK235.out) hb)
    have n1_ := Aside0.mk (blk_below (g := gb236) (o := .cells #[.slice A1_0 l1_0.length c1_0, .int .u8 a1_1] 24 (0, 0)) (by (with_reducible repeat (first | refine blk_drewN ?_ _ | refine blk_drew ?_ | refine blk_alloc ?_ _)); exact BK236.out) hb)
    have n2_ := Aside0.mk (below_step (by repeat (first | (with_reducible first | exact HB.out | apply below_alloc | apply pw_below_drewN | apply below_drew1 | refine below_set ?_ GE235.out | refine below_set ?_ GE236.out) | exact HB.out)) hb)
    clear BK235
    clear BK236
    clear HB
    have BK235 := n0_
    have BK236 := n1_
    have HB := n2_
    clear n0_ n1_ n2_
    (try clear hb)
    (try clear hb2)
    (try clear hk)
    (try clear hi)
    refine hK.out _ _ ⟨(blk_cell BK235.out 0).trans rfl, (blk_cell BK235.out 1).trans rfl, (blk_cell BK236.out 0).trans rfl, (blk_cell BK236.out 1).trans rfl⟩ (fun hHeld => ?_)
    clear hK K
    refine norm_ (a' := ?_) ?_ ?_
    rotate_left
    · show Act.put _ (some 25) _ = _
      simp only [Act.put, List.setIfInBounds_toArray, List.set_cons_zero, List.set_cons_succ, i64_w, i32_w]
      rfl
    refine one_ (i := 3) (N := some 27) #[true, true, true, true, false, false] rfl rfl (by kernel_rfl) (by decide) (fun K hK => ?_)
    refine goes_ Try.func12 (by kernel_rfl) rfl #[.agg #[.slice A1_0 l1_0.length c1_0, .int .u8 a1_1]] (by rfl) rfl rfl (by (try simp only [List.map_toArray, List.map_cons, List.map_nil]); first | done | rfl | (simp only [List.length_drop, List.length_take]; rfl)) ?_
    with_reducible refine (schismalaw34_Make.calls k _ _ l1_0 a1_1 t239 _ ?side1 ?side2 A6.out).mono ?_
    (case side1 => repeat (first | exact (Kd.C_below HR1_0.out HB.out) | (with_reducible refine Kd.C_alloc ?_ _) | (with_reducible refine Kd.C_drewN ?_ _) | (with_reducible refine Kd.C_drew ?_)))
    (case side2 => exact HC1_0.out)
    rintro e w16 ⟨rfl, hb⟩
    refine ⟨_, rfl, ?_⟩
    have n0_ := Aside0.mk (blk_below (g := gb235) (o := .cells #[.slice A0_0 l0_0.length c0_0, .int .u8 a0_1] 24 (0, 0)) (by (with_reducible repeat (first | refine blk_drewN ?_ _ | refine blk_drew ?_ | refine blk_alloc ?_ _)); exact BK235.out) hb)
    have n1_ := Aside0.mk (blk_below (g := gb236) (o := .cells #[.slice A1_0 l1_0.length c1_0, .int .u8 a1_1] 24 (0, 0)) (by (with_reducible repeat (first | refine blk_drewN ?_ _ | refine blk_drew ?_ | refine blk_alloc ?_ _)); exact BK236.out) hb)
    have n2_ := Aside0.mk (below_step (by repeat (first | (with_reducible first | exact HB.out | apply below_alloc | apply pw_below_drewN | apply below_drew1 | refine below_set ?_ GE235.out | refine below_set ?_ GE236.out) | exact HB.out)) hb)
    clear BK235
    clear BK236
    clear HB
    have BK235 := n0_
    have BK236 := n1_
    have HB := n2_
    clear n0_ n1_ n2_
    (try clear hb)
    (try clear hb2)
    (try clear hk)
    (try clear hi)
    refine hK.out _ _ ⟨(blk_cell BK235.out 0).trans rfl, (blk_cell BK235.out 1).trans rfl, (blk_cell BK236.out 0).trans rfl, (blk_cell BK236.out 1).trans rfl⟩ (fun hHeld => ?_)
    clear hK K
    refine norm_ (a' := ?_) ?_ ?_
    rotate_left
    · show Act.put _ (some 27) _ = _
      simp only [Act.put, List.setIfInBounds_toArray, List.set_cons_zero, List.set_cons_succ, i64_w, i32_w]
      rfl
    refine pure_ (i := 4) (N := some 5) (v := ?_) (a' := ?_) #[true, true, true, true, true, false] rfl rfl (by kernel_rfl) (fun _ _ _ h => h) (Or.inl ⟨by rfl, ?_⟩) ?_ ?_
    rotate_left
    · intro w'
      go_simp
      with_reducible rfl
    rotate_left
    · simp only [Act.put, List.setIfInBounds_toArray, List.set_cons_zero, List.set_cons_succ, i64_w, i32_w]
      rfl
    refine pure_ (i := 5) (N := some 6) (v := ?_) (a' := ?_) #[true, true, true, true, true, true] rfl rfl (by kernel_rfl) (fun _ _ _ h => h) (Or.inl ⟨by rfl, ?_⟩) ?_ ?_
    rotate_left
    · intro w'
      go_simp
      with_reducible rfl
    rotate_left
    · simp only [Act.put, List.setIfInBounds_toArray, List.set_cons_zero, List.set_cons_succ, i64_w, i32_w]
      rfl
    refine done_ (by kernel_rfl) ?_
    go_upto_region 7 with (first | ((with_reducible refine gate_callee (f := 20) rfl ?_); refine goesL_ (some 30) rfl rfl Try.func20 (by kernel_rfl) rfl #[.string t238] rfl (by (try simp only [List.map_toArray, List.map_cons, List.map_nil]); first | done | rfl | (simp only [List.length_drop, List.length_take]; rfl)) ?_; (with_reducible refine (word_Least.calls k t238 t240 t241 t242 _ A7.out).mono ?_); rintro e w' ⟨rfl, ⟨nd, rfl⟩⟩; refine ⟨_, rfl, ?_⟩) | ((with_reducible refine gate_callee (f := 21) rfl ?_); refine goesL_ (some 37) rfl rfl Try.func21 (by kernel_rfl) rfl #[.string t238, .string t239] rfl (by (try simp only [List.map_toArray, List.map_cons, List.map_nil]); first | done | rfl | (simp only [List.length_drop, List.length_take]; rfl)) ?_; (with_reducible refine (word_Same.calls k t238 t239 t243 t244 t245 _ A8.out).mono ?_); rintro e w' ⟨rfl, ⟨nd, rfl⟩⟩; refine ⟨_, rfl, ?_⟩) | ((with_reducible refine gate_callee (f := 22) rfl ?_); refine goesL_ (some 43) rfl rfl Try.func22 (by kernel_rfl) rfl #[.string t238] rfl (by (try simp only [List.map_toArray, List.map_cons, List.map_nil]); first | done | rfl | (simp only [List.length_drop, List.length_take]; rfl)) ?_; (with_reducible refine (word_Primitive.calls k t238 t246 t247 t248 _ A9.out).mono ?_); rintro e w' ⟨rfl, ⟨nd, rfl⟩⟩; refine ⟨_, rfl, ?_⟩))
    (try simp only [Act.put, List.setIfInBounds_toArray, List.set_cons_zero, List.set_cons_succ])
    go_cut [56] (fun v56 wc => ∃ (kq : Nat) (x56_9 : Bool), v56 = .bool x56_9 ∧ Aside0 (schismalaw34_WordRotations.j0 kq t238 t239 t240 t241 t243 t244 t246 t247 x56_9 = some r) ∧ Aside0 (kq ≤ k) ∧ Aside0 (wc.heap[gb235]? = some (.cells #[(.slice A0_0 l0_0.length c0_0), .int .u8 a0_1] 24 (0, 0))) ∧ Aside0 (wc.heap[gb236]? = some (.cells #[(.slice A1_0 l1_0.length c1_0), .int .u8 a1_1] 24 (0, 0))) ∧ Aside0 (Below w.heap.size w wc))
    case first =>
      have H := HC10.out
      clear HC10
      by_cases c17 : t242 = 0
      · rw [if_pos c17] at H
        have c17b0 : (t242 == 0) = true := beq_iff_eq.mpr c17
        have c17b1 : (t242 != 0) = false := bne_eq_false_iff_eq.mpr c17
        clear c17
        (first | rw [c17b0] | (simp only [i64_w, i32_w]; rw [c17b0]) | skip)
        by_cases c18 : t245 = 0
        · rw [if_pos c18] at H
          have c18b0 : (t245 == 0) = true := beq_iff_eq.mpr c18
          have c18b1 : (t245 != 0) = false := bne_eq_false_iff_eq.mpr c18
          clear c18
          have H' := Aside0.mk H
          clear H
          go_wp2
          go_meet
          case rel => exact ⟨_, ((t248 != 0)), (by first | rfl | (simp; done) | (simp [*]; done)), H', ⟨by first | omega | exact Nat.le_refl _⟩, ⟨by (with_reducible repeat (first | refine blk_drewN ?_ _ | refine blk_drew ?_ | refine blk_alloc ?_ _)); exact BK235.out⟩, ⟨by (with_reducible repeat (first | refine blk_drewN ?_ _ | refine blk_drew ?_ | refine blk_alloc ?_ _)); exact BK236.out⟩, ⟨by repeat (first | (with_reducible first | exact HB.out | apply below_alloc | apply pw_below_drewN | apply below_drew1 | refine below_set ?_ GE235.out | refine below_set ?_ GE236.out) | exact HB.out)⟩⟩
        · rw [if_neg c18] at H
          have c18b0 : (t245 == 0) = false := beq_eq_false_iff_ne.mpr c18
          have c18b1 : (t245 != 0) = true := bne_iff_ne.mpr c18
          have H' := Aside0.mk H
          clear H
          go_wp2
          go_meet
          case rel => exact ⟨_, (true), (by first | rfl | (simp; done) | (simp [*]; done)), H', ⟨by first | omega | exact Nat.le_refl _⟩, ⟨by (with_reducible repeat (first | refine blk_drewN ?_ _ | refine blk_drew ?_ | refine blk_alloc ?_ _)); exact BK235.out⟩, ⟨by (with_reducible repeat (first | refine blk_drewN ?_ _ | refine blk_drew ?_ | refine blk_alloc ?_ _)); exact BK236.out⟩, ⟨by repeat (first | (with_reducible first | exact HB.out | apply below_alloc | apply pw_below_drewN | apply below_drew1 | refine below_set ?_ GE235.out | refine below_set ?_ GE236.out) | exact HB.out)⟩⟩
      · rw [if_neg c17] at H
        have c17b0 : (t242 == 0) = false := beq_eq_false_iff_ne.mpr c17
        have c17b1 : (t242 != 0) = true := bne_iff_ne.mpr c17
        (first | rw [c17b0] | (simp only [i64_w, i32_w]; rw [c17b0]) | skip)
        have H' := Aside0.mk H
        clear H
        go_wp2
        go_meet
        case rel => exact ⟨_, (true), (by first | rfl | (simp; done) | (simp [*]; done)), H', ⟨by first | omega | exact Nat.le_refl _⟩, ⟨by (with_reducible repeat (first | refine blk_drewN ?_ _ | refine blk_drew ?_ | refine blk_alloc ?_ _)); exact BK235.out⟩, ⟨by (with_reducible repeat (first | refine blk_drewN ?_ _ | refine blk_drew ?_ | refine blk_alloc ?_ _)); exact BK236.out⟩, ⟨by repeat (first | (with_reducible first | exact HB.out | apply below_alloc | apply pw_below_drewN | apply below_drew1 | refine below_set ?_ GE235.out | refine below_set ?_ GE236.out) | exact HB.out)⟩⟩
    case rest =>
      clear HC10
      try clear c1
      try clear c2
      try clear p2
      try clear c4
      try clear c7
      try clear c11
      try clear c12
      try clear c17
      try clear c17b0
      try clear c17b1
      try clear c18
      try clear c18b0
      try clear c18b1
      obtain ⟨kq, x56_9, rfl, HA, HJ9, BK235, BK236, HB⟩ := hcut
      cases kq with
      | zero => exact absurd HA.out (by simp [schismalaw34_WordRotations.j0])
      | succ kj9 =>
        have H := HA.out
        clear HA
        simp only [schismalaw34_WordRotations.j0] at H
        by_cases c19 : x56_9 = true
        · subst c19
          have H1 : (some false) = some r := by rw [if_pos rfl] at H; exact H
          clear H
          have H := H1
          clear H1
          obtain rfl := Option.some.inj H
          go_wp2
          go_ret
          exact ⟨by first | rfl | (simp [errW_none, errW_some] <;> rfl) | (simp [*, errW_none, errW_some] <;> rfl), by repeat (first | (with_reducible first | exact HB.out | apply below_alloc | apply pw_below_drewN | apply below_drew1 | refine below_set ?_ GE235.out | refine below_set ?_ GE236.out) | exact HB.out)⟩
        · replace c19 := Bool.eq_false_iff.mpr c19
          subst c19
          have H1 : ((schismalaw34_least.f kj9 t238).bind fun bt249 => (if t240.toList = bt249.1.toList then (schismalaw34_WordRotations.j1 kj9 t238 t239 t243 t244 t246 t247 (t241 != bt249.2)) else (schismalaw34_WordRotations.j1 kj9 t238 t239 t243 t244 t246 t247 true))) = some r := by rw [if_neg (show ¬ (false = true) by decide)] at H; exact H
          clear H
          have H := H1
          clear H1
          replace H := Option.bind_eq_some_iff.mp H
          obtain ⟨⟨t249, t250⟩, A200, H⟩ := H
          replace H : (if t240.toList = t249.toList then (schismalaw34_WordRotations.j1 kj9 t238 t239 t243 t244 t246 t247 (t241 != t250)) else (schismalaw34_WordRotations.j1 kj9 t238 t239 t243 t244 t246 t247 true)) = some r := H
          have A20 := Aside0.mk A200
          clear A200
          have HC21 := Aside0.mk H
          clear H
          go_upto_region 10 with (first | ((with_reducible refine gate_callee (f := 23) rfl ?_); refine goesL_ (some 59) rfl rfl Try.func23 (by kernel_rfl) rfl #[.string t238] rfl (by (try simp only [List.map_toArray, List.map_cons, List.map_nil]); first | done | rfl | (simp only [List.length_drop, List.length_take]; rfl)) ?_; (with_reducible refine (schismalaw34_least.calls kj9 t238 t249 t250 _ A20.out).mono ?_); rintro e w' ⟨rfl, ⟨nd, rfl⟩⟩; refine ⟨_, rfl, ?_⟩))
          (try simp only [Act.put, List.setIfInBounds_toArray, List.set_cons_zero, List.set_cons_succ])
          go_cut [69] (fun v69 wc => ∃ (kq : Nat) (x69_20 : Bool), v69 = .bool x69_20 ∧ Aside0 (schismalaw34_WordRotations.j1 kq t238 t239 t243 t244 t246 t247 x69_20 = some r) ∧ Aside0 (kq ≤ kj9) ∧ Aside0 (wc.heap[gb235]? = some (.cells #[(.slice A0_0 l0_0.length c0_0), .int .u8 a0_1] 24 (0, 0))) ∧ Aside0 (wc.heap[gb236]? = some (.cells #[(.slice A1_0 l1_0.length c1_0), .int .u8 a1_1] 24 (0, 0))) ∧ Aside0 (Below w.heap.size w wc))
          case first =>
            have H := HC21.out
            clear HC21
            by_cases c22 : t240.toList = t249.toList
            · rw [if_pos c22] at H
              have c22b0 : (t240.toList == t249.toList) = true := beq_iff_eq.mpr c22
              have c22b1 : (t240.toList != t249.toList) = false := bne_eq_false_iff_eq.mpr c22
              clear c22
              (first | rw [c22b0] | (simp only [i64_w, i32_w]; rw [c22b0]) | skip)
              have H' := Aside0.mk H
              clear H
              go_wp2
              go_meet
              case rel => exact ⟨_, ((t241 != t250)), (by first | rfl | (simp; done) | (simp [*]; done)), H', ⟨by have := HJ9.out; first | omega | exact Nat.le_refl _⟩, ⟨by (with_reducible repeat (first | refine blk_drewN ?_ _ | refine blk_drew ?_ | refine blk_alloc ?_ _)); exact BK235.out⟩, ⟨by (with_reducible repeat (first | refine blk_drewN ?_ _ | refine blk_drew ?_ | refine blk_alloc ?_ _)); exact BK236.out⟩, ⟨by repeat (first | (with_reducible first | exact HB.out | apply below_alloc | apply pw_below_drewN | apply below_drew1 | refine below_set ?_ GE235.out | refine below_set ?_ GE236.out) | exact HB.out)⟩⟩
            · rw [if_neg c22] at H
              have c22b0 : (t240.toList == t249.toList) = false := beq_eq_false_iff_ne.mpr c22
              have c22b1 : (t240.toList != t249.toList) = true := bne_iff_ne.mpr c22
              (first | rw [c22b0] | (simp only [i64_w, i32_w]; rw [c22b0]) | skip)
              have H' := Aside0.mk H
              clear H
              go_wp2
              go_meet
              case rel => exact ⟨_, (true), (by first | rfl | (simp; done) | (simp [*]; done)), H', ⟨by have := HJ9.out; first | omega | exact Nat.le_refl _⟩, ⟨by (with_reducible repeat (first | refine blk_drewN ?_ _ | refine blk_drew ?_ | refine blk_alloc ?_ _)); exact BK235.out⟩, ⟨by (with_reducible repeat (first | refine blk_drewN ?_ _ | refine blk_drew ?_ | refine blk_alloc ?_ _)); exact BK236.out⟩, ⟨by repeat (first | (with_reducible first | exact HB.out | apply below_alloc | apply pw_below_drewN | apply below_drew1 | refine below_set ?_ GE235.out | refine below_set ?_ GE236.out) | exact HB.out)⟩⟩
          case rest =>
            clear HC21
            try clear c1
            try clear c2
            try clear p2
            try clear c4
            try clear c7
            try clear c11
            try clear c12
            try clear c17
            try clear c17b0
            try clear c17b1
            try clear c18
            try clear c18b0
            try clear c18b1
            try clear c19
            try clear c20
            try clear c21
            try clear c22
            try clear c22b0
            try clear c22b1
            try clear p2
            obtain ⟨kq, x69_20, rfl, HA, HJ20, BK235, BK236, HB⟩ := hcut
            cases kq with
            | zero => exact absurd HA.out (by simp [schismalaw34_WordRotations.j1])
            | succ kj20 =>
              have H := HA.out
              clear HA
              simp only [schismalaw34_WordRotations.j1] at H
              by_cases c23 : x69_20 = true
              · subst c23
                have H1 : (some false) = some r := by rw [if_pos rfl] at H; exact H
                clear H
                have H := H1
                clear H1
                obtain rfl := Option.some.inj H
                go_wp2
                go_ret
                exact ⟨by first | rfl | (simp [errW_none, errW_some] <;> rfl) | (simp [*, errW_none, errW_some] <;> rfl), by repeat (first | (with_reducible first | exact HB.out | apply below_alloc | apply pw_below_drewN | apply below_drew1 | refine below_set ?_ GE235.out | refine below_set ?_ GE236.out) | exact HB.out)⟩
              · replace c23 := Bool.eq_false_iff.mpr c23
                subst c23
                have H1 : (schismalaw34_WordRotations.l0 kj20 t238 t239 t243 t244 t246 t247 0 false (wrap64 ((t238.size : Int) - 1))) = some r := by rw [if_neg (show ¬ (false = true) by decide)] at H; exact H
                clear H
                have H := H1
                clear H1
                have H' := Aside0.mk H
                clear H
                go_wp2
                go_loopg [18, 19, 20] kj20 (fun kq v18 v19 v20 w' => ∃ (x18_3 : Int) (x19_3 : Bool) (x20_3 : Int), v18 = .int .i64 x18_3 ∧ v19 = .bool x19_3 ∧ v20 = .int .i64 x20_3 ∧ Aside0 (schismalaw34_WordRotations.l0 kq t238 t239 t243 t244 t246 t247 x18_3 x19_3 x20_3 = some r) ∧ Aside0 (kq ≤ kj20) ∧ Aside0 (w'.heap[gb235]? = some (.cells #[(.slice A0_0 l0_0.length c0_0), .int .u8 a0_1] 24 (0, 0))) ∧ Aside0 (w'.heap[gb236]? = some (.cells #[(.slice A1_0 l1_0.length c1_0), .int .u8 a1_1] 24 (0, 0))) ∧ Aside0 (Below w.heap.size w w'))
                case atStart => exact ⟨(0), (false), (wrap64 ((t238.size : Int) - 1)), (by first | rfl | (simp; done) | (simp [*]; done)), (by first | rfl | (simp; done) | (simp [*]; done)), (by first | rfl | (simp; done) | (simp [*]; done)), H', ⟨Nat.le_refl _⟩, ⟨by (with_reducible repeat (first | refine blk_drewN ?_ _ | refine blk_drew ?_ | refine blk_alloc ?_ _)); exact BK235.out⟩, ⟨by (with_reducible repeat (first | refine blk_drewN ?_ _ | refine blk_drew ?_ | refine blk_alloc ?_ _)); exact BK236.out⟩, ⟨by repeat (first | (with_reducible first | exact HB.out | apply below_alloc | apply pw_below_drewN | apply below_drew1 | refine below_set ?_ GE235.out | refine below_set ?_ GE236.out) | exact HB.out)⟩⟩
                case round =>
                  clear H'
                  try clear c1
                  try clear c2
                  try clear p2
                  try clear c4
                  try clear p6
                  try clear c7
                  try clear c11
                  try clear c12
                  try clear c17
                  try clear c17b0
                  try clear c17b1
                  try clear c18
                  try clear c18b0
                  try clear c18b1
                  try clear c19
                  try clear c20
                  try clear c21
                  try clear c22
                  try clear c22b0
                  try clear c22b1
                  try clear c23
                  try clear p2
                  obtain ⟨x18_3, x19_3, x20_3, rfl, rfl, rfl, HA, HK3, BK235, BK236, HB⟩ := hrel
                  cases gk with
                  | zero => exact absurd HA.out (by simp [schismalaw34_WordRotations.l0])
                  | succ k3 =>
                    have H := HA.out
                    clear HA
                    simp only [schismalaw34_WordRotations.l0] at H
                    by_cases c24 : x20_3 ≥ 0
                    · rw [if_pos c24] at H
                      have c24b0 : decide (0 ≤ x20_3) = true := decide_eq_true c24
                      clear c24
                      replace H := Option.bind_eq_some_iff.mp H
                      obtain ⟨t251, A250, H⟩ := H
                      replace H : (if t251.toList = t239.toList then (schismalaw34_WordRotations.l0 k3 t238 t239 t243 t244 t246 t247 x20_3 true (wrap64 (x20_3 - 1))) else (schismalaw34_WordRotations.l0 k3 t238 t239 t243 t244 t246 t247 x18_3 x19_3 (wrap64 (x20_3 - 1)))) = some r := H
                      have A25 := Aside0.mk A250
                      clear A250
                      by_cases c26 : t251.toList = t239.toList
                      · rw [if_pos c26] at H
                        have c26b0 : (t251.toList == t239.toList) = true := beq_iff_eq.mpr c26
                        have c26b1 : (t251.toList != t239.toList) = false := bne_eq_false_iff_eq.mpr c26
                        clear c26
                        have H' := Aside0.mk H
                        clear H
                        go_wp2_with (first | ((with_reducible refine gate_callee (f := 24) rfl ?_); refine goesL_ (some 79) rfl rfl Try.func24 (by kernel_rfl) rfl #[.string t238, .int .i64 x20_3] rfl (by (try simp only [List.map_toArray, List.map_cons, List.map_nil]); first | done | rfl | (simp only [List.length_drop, List.length_take]; rfl)) ?_; (with_reducible refine (schismalaw34_rotate.calls t238 x20_3 t251 _ A25.out).mono ?_); rintro e w' ⟨rfl, ⟨nd, rfl⟩⟩; refine ⟨_, rfl, ?_⟩))
                        go_roundg k3
                        case measure => have := HJ9.out; have := HJ20.out; have := HK3.out; omega
                        case rel => exact ⟨(x20_3), (true), (wrap64 (x20_3 - 1)), (by first | rfl | (simp; done) | (simp [*]; done)), (by first | rfl | (simp; done) | (simp [*]; done)), (by first | rfl | (simp; done) | (simp [*]; done)), H', ⟨by have := HJ9.out; have := HJ20.out; have := HK3.out; omega⟩, ⟨by (with_reducible repeat (first | refine blk_drewN ?_ _ | refine blk_drew ?_ | refine blk_alloc ?_ _)); exact BK235.out⟩, ⟨by (with_reducible repeat (first | refine blk_drewN ?_ _ | refine blk_drew ?_ | refine blk_alloc ?_ _)); exact BK236.out⟩, ⟨by repeat (first | (with_reducible first | exact HB.out | apply below_alloc | apply pw_below_drewN | apply below_drew1 | refine below_set ?_ GE235.out | refine below_set ?_ GE236.out) | exact HB.out)⟩⟩
                      · rw [if_neg c26] at H
                        have c26b0 : (t251.toList == t239.toList) = false := beq_eq_false_iff_ne.mpr c26
                        have c26b1 : (t251.toList != t239.toList) = true := bne_iff_ne.mpr c26
                        have H' := Aside0.mk H
                        clear H
                        go_wp2_with (first | ((with_reducible refine gate_callee (f := 24) rfl ?_); refine goesL_ (some 79) rfl rfl Try.func24 (by kernel_rfl) rfl #[.string t238, .int .i64 x20_3] rfl (by (try simp only [List.map_toArray, List.map_cons, List.map_nil]); first | done | rfl | (simp only [List.length_drop, List.length_take]; rfl)) ?_; (with_reducible refine (schismalaw34_rotate.calls t238 x20_3 t251 _ A25.out).mono ?_); rintro e w' ⟨rfl, ⟨nd, rfl⟩⟩; refine ⟨_, rfl, ?_⟩))
                        go_roundg k3
                        case measure => have := HJ9.out; have := HJ20.out; have := HK3.out; omega
                        case rel => exact ⟨(x18_3), (x19_3), (wrap64 (x20_3 - 1)), (by first | rfl | (simp; done) | (simp [*]; done)), (by first | rfl | (simp; done) | (simp [*]; done)), (by first | rfl | (simp; done) | (simp [*]; done)), H', ⟨by have := HJ9.out; have := HJ20.out; have := HK3.out; omega⟩, ⟨by (with_reducible repeat (first | refine blk_drewN ?_ _ | refine blk_drew ?_ | refine blk_alloc ?_ _)); exact BK235.out⟩, ⟨by (with_reducible repeat (first | refine blk_drewN ?_ _ | refine blk_drew ?_ | refine blk_alloc ?_ _)); exact BK236.out⟩, ⟨by repeat (first | (with_reducible first | exact HB.out | apply below_alloc | apply pw_below_drewN | apply below_drew1 | refine below_set ?_ GE235.out | refine below_set ?_ GE236.out) | exact HB.out)⟩⟩
                    · rw [if_neg c24] at H
                      have c24b0 : decide (0 ≤ x20_3) = false := decide_eq_false c24
                      clear c24
                      have H' := Aside0.mk H
                      clear H
                      go_wp2
                      go_loopg [21] k3 (fun kq v21 w' => ∃ (x21_4 : Int), v21 = .int .i64 x21_4 ∧ Aside0 (schismalaw34_WordRotations.l1 kq t238 t243 t244 t246 t247 x18_3 x19_3 x21_4 = some r) ∧ Aside0 (kq ≤ k3) ∧ Aside0 (w'.heap[gb235]? = some (.cells #[(.slice A0_0 l0_0.length c0_0), .int .u8 a0_1] 24 (0, 0))) ∧ Aside0 (w'.heap[gb236]? = some (.cells #[(.slice A1_0 l1_0.length c1_0), .int .u8 a1_1] 24 (0, 0))) ∧ Aside0 (Below w.heap.size w w'))
                      case atStart => exact ⟨(1), (by first | rfl | (simp; done) | (simp [*]; done)), H', ⟨Nat.le_refl _⟩, ⟨by (with_reducible repeat (first | refine blk_drewN ?_ _ | refine blk_drew ?_ | refine blk_alloc ?_ _)); exact BK235.out⟩, ⟨by (with_reducible repeat (first | refine blk_drewN ?_ _ | refine blk_drew ?_ | refine blk_alloc ?_ _)); exact BK236.out⟩, ⟨by repeat (first | (with_reducible first | exact HB.out | apply below_alloc | apply pw_below_drewN | apply below_drew1 | refine below_set ?_ GE235.out | refine below_set ?_ GE236.out) | exact HB.out)⟩⟩
                      case round =>
                        clear H'
                        try clear c1
                        try clear c2
                        try clear p2
                        try clear c4
                        try clear p6
                        try clear c7
                        try clear c11
                        try clear c12
                        try clear c17
                        try clear c17b0
                        try clear c17b1
                        try clear c18
                        try clear c18b0
                        try clear c18b1
                        try clear c19
                        try clear c20
                        try clear c21
                        try clear c22
                        try clear c22b0
                        try clear c22b1
                        try clear c23
                        try clear c24
                        try clear c24b0
                        try clear c26
                        try clear c26b0
                        try clear c26b1
                        try clear p2
                        try clear p6
                        obtain ⟨x21_4, rfl, HA, HK4, BK235, BK236, HB⟩ := hrel
                        cases gk with
                        | zero => exact absurd HA.out (by simp [schismalaw34_WordRotations.l1])
                        | succ k4 =>
                          have H := HA.out
                          clear HA
                          simp only [schismalaw34_WordRotations.l1] at H
                          replace H := Option.bind_eq_some_iff.mp H
                          obtain ⟨t252, A270, H⟩ := H
                          replace H : (if t252.toList = t238.toList then (if t243 = x18_3 then (if (t244 == x19_3) = true then (if 0 ≤ x21_4 then (if x21_4 ≤ (t238.size : Int) then (if t246.toList = (t238.extract 0 (x21_4 : Int).toNat).toList then (if x21_4 = 0 then (none) else (some (t247 == (wrap64 ((t238.size : Int) / x21_4))))) else (some false)) else (none)) else (none)) else (some false)) else (some false)) else (schismalaw34_WordRotations.l1 k4 t238 t243 t244 t246 t247 x18_3 x19_3 (wrap64 (x21_4 + 1)))) = some r := H
                          have A27 := Aside0.mk A270
                          clear A270
                          by_cases c28 : t252.toList = t238.toList
                          · rw [if_pos c28] at H
                            have c28b0 : (t252.toList == t238.toList) = true := beq_iff_eq.mpr c28
                            have c28b1 : (t252.toList != t238.toList) = false := bne_eq_false_iff_eq.mpr c28
                            clear c28
                            by_cases c29 : t243 = x18_3
                            · rw [if_pos c29] at H
                              have c29b0 : (t243 == x18_3) = true := beq_iff_eq.mpr c29
                              have c29b1 : (t243 != x18_3) = false := bne_eq_false_iff_eq.mpr c29
                              clear c29
                              by_cases c30 : (t244 == x19_3) = true
                              · rw [if_pos c30] at H
                                have c30b0 : (t244 == x19_3) = true := c30
                                (try (have c30b1 : decide (t244 = x19_3) = true := by simpa using c30))
                                (try (have c30b2 : (t244 == x19_3) = true := by simpa using c30))
                                clear c30
                                by_cases c31 : 0 ≤ x21_4
                                · rw [if_pos c31] at H
                                  have c31b0 := eq_true c31
                                  have c31b1 : decide (0 ≤ x21_4) = true := decide_eq_true c31
                                  clear c31
                                  by_cases c32 : x21_4 ≤ (t238.size : Int)
                                  · rw [if_pos c32] at H
                                    have c32b0 := eq_true c32
                                    have c32b1 : decide (x21_4 ≤ (t238.size : Int)) = true := decide_eq_true c32
                                    clear c32
                                    by_cases c33 : t246.toList = (t238.extract 0 (x21_4 : Int).toNat).toList
                                    · rw [if_pos c33] at H
                                      have c33b0 : (t246.toList == (t238.extract 0 (x21_4 : Int).toNat).toList) = true := beq_iff_eq.mpr c33
                                      have c33b1 : (t246.toList != (t238.extract 0 (x21_4 : Int).toNat).toList) = false := bne_eq_false_iff_eq.mpr c33
                                      clear c33
                                      by_cases c34 : x21_4 = 0
                                      · rw [if_pos c34] at H
                                        exact absurd H (by simp)
                                      · rw [if_neg c34] at H
                                        have c34b0 : (x21_4 == 0) = false := beq_eq_false_iff_ne.mpr c34
                                        have c34b1 : (x21_4 != 0) = true := bne_iff_ne.mpr c34
                                        obtain rfl := Option.some.inj H
                                        go_wp2_with (first | ((with_reducible refine gate_callee (f := 24) rfl ?_); refine goesL_ (some 85) rfl rfl Try.func24 (by kernel_rfl) rfl #[.string t238, .int .i64 x21_4] rfl (by (try simp only [List.map_toArray, List.map_cons, List.map_nil]); first | done | rfl | (simp only [List.length_drop, List.length_take]; rfl)) ?_; (with_reducible refine (schismalaw34_rotate.calls t238 x21_4 t252 _ A27.out).mono ?_); rintro e w' ⟨rfl, ⟨nd, rfl⟩⟩; refine ⟨_, rfl, ?_⟩))
                                        go_ret
                                        exact ⟨by first | rfl | (simp [errW_none, errW_some] <;> rfl) | (simp [*, errW_none, errW_some] <;> rfl), by repeat (first | (with_reducible first | exact HB.out | apply below_alloc | apply pw_below_drewN | apply below_drew1 | refine below_set ?_ GE235.out | refine below_set ?_ GE236.out) | exact HB.out)⟩
                                    · rw [if_neg c33] at H
                                      have c33b0 : (t246.toList == (t238.extract 0 (x21_4 : Int).toNat).toList) = false := beq_eq_false_iff_ne.mpr c33
                                      have c33b1 : (t246.toList != (t238.extract 0 (x21_4 : Int).toNat).toList) = true := bne_iff_ne.mpr c33
                                      obtain rfl := Option.some.inj H
                                      go_wp2_with (first | ((with_reducible refine gate_callee (f := 24) rfl ?_); refine goesL_ (some 85) rfl rfl Try.func24 (by kernel_rfl) rfl #[.string t238, .int .i64 x21_4] rfl (by (try simp only [List.map_toArray, List.map_cons, List.map_nil]); first | done | rfl | (simp only [List.length_drop, List.length_take]; rfl)) ?_; (with_reducible refine (schismalaw34_rotate.calls t238 x21_4 t252 _ A27.out).mono ?_); rintro e w' ⟨rfl, ⟨nd, rfl⟩⟩; refine ⟨_, rfl, ?_⟩))
                                      go_ret
                                      exact ⟨by first | rfl | (simp [errW_none, errW_some] <;> rfl) | (simp [*, errW_none, errW_some] <;> rfl), by repeat (first | (with_reducible first | exact HB.out | apply below_alloc | apply pw_below_drewN | apply below_drew1 | refine below_set ?_ GE235.out | refine below_set ?_ GE236.out) | exact HB.out)⟩
                                  · rw [if_neg c32] at H
                                    exact absurd H (by simp)
                                · rw [if_neg c31] at H
                                  exact absurd H (by simp)
                              · rw [if_neg c30] at H
                                have c30b0 : (t244 == x19_3) = false := by simpa using c30
                                (try (have c30b1 : decide (t244 = x19_3) = false := by simpa using c30))
                                (try (have c30b2 : (t244 == x19_3) = false := by simpa using c30))
                                (try (have c30b3 : ¬ (t244 = x19_3) := by simpa using c30))
                                clear c30
                                obtain rfl := Option.some.inj H
                                go_wp2_with (first | ((with_reducible refine gate_callee (f := 24) rfl ?_); refine goesL_ (some 85) rfl rfl Try.func24 (by kernel_rfl) rfl #[.string t238, .int .i64 x21_4] rfl (by (try simp only [List.map_toArray, List.map_cons, List.map_nil]); first | done | rfl | (simp only [List.length_drop, List.length_take]; rfl)) ?_; (with_reducible refine (schismalaw34_rotate.calls t238 x21_4 t252 _ A27.out).mono ?_); rintro e w' ⟨rfl, ⟨nd, rfl⟩⟩; refine ⟨_, rfl, ?_⟩))
                                go_ret
                                exact ⟨by first | rfl | (simp [errW_none, errW_some] <;> rfl) | (simp [*, errW_none, errW_some] <;> rfl), by repeat (first | (with_reducible first | exact HB.out | apply below_alloc | apply pw_below_drewN | apply below_drew1 | refine below_set ?_ GE235.out | refine below_set ?_ GE236.out) | exact HB.out)⟩
                            · rw [if_neg c29] at H
                              have c29b0 : (t243 == x18_3) = false := beq_eq_false_iff_ne.mpr c29
                              have c29b1 : (t243 != x18_3) = true := bne_iff_ne.mpr c29
                              obtain rfl := Option.some.inj H
                              go_wp2_with (first | ((with_reducible refine gate_callee (f := 24) rfl ?_); refine goesL_ (some 85) rfl rfl Try.func24 (by kernel_rfl) rfl #[.string t238, .int .i64 x21_4] rfl (by (try simp only [List.map_toArray, List.map_cons, List.map_nil]); first | done | rfl | (simp only [List.length_drop, List.length_take]; rfl)) ?_; (with_reducible refine (schismalaw34_rotate.calls t238 x21_4 t252 _ A27.out).mono ?_); rintro e w' ⟨rfl, ⟨nd, rfl⟩⟩; refine ⟨_, rfl, ?_⟩))
                              go_ret
                              exact ⟨by first | rfl | (simp [errW_none, errW_some] <;> rfl) | (simp [*, errW_none, errW_some] <;> rfl), by repeat (first | (with_reducible first | exact HB.out | apply below_alloc | apply pw_below_drewN | apply below_drew1 | refine below_set ?_ GE235.out | refine below_set ?_ GE236.out) | exact HB.out)⟩
                          · rw [if_neg c28] at H
                            have c28b0 : (t252.toList == t238.toList) = false := beq_eq_false_iff_ne.mpr c28
                            have c28b1 : (t252.toList != t238.toList) = true := bne_iff_ne.mpr c28
                            have H' := Aside0.mk H
                            clear H
                            go_wp2_with (first | ((with_reducible refine gate_callee (f := 24) rfl ?_); refine goesL_ (some 85) rfl rfl Try.func24 (by kernel_rfl) rfl #[.string t238, .int .i64 x21_4] rfl (by (try simp only [List.map_toArray, List.map_cons, List.map_nil]); first | done | rfl | (simp only [List.length_drop, List.length_take]; rfl)) ?_; (with_reducible refine (schismalaw34_rotate.calls t238 x21_4 t252 _ A27.out).mono ?_); rintro e w' ⟨rfl, ⟨nd, rfl⟩⟩; refine ⟨_, rfl, ?_⟩))
                            go_roundg k4
                            case measure => have := HJ9.out; have := HJ20.out; have := HK3.out; have := HK4.out; omega
                            case rel => exact ⟨(wrap64 (x21_4 + 1)), (by first | rfl | (simp; done) | (simp [*]; done)), H', ⟨by have := HJ9.out; have := HJ20.out; have := HK3.out; have := HK4.out; omega⟩, ⟨by (with_reducible repeat (first | refine blk_drewN ?_ _ | refine blk_drew ?_ | refine blk_alloc ?_ _)); exact BK235.out⟩, ⟨by (with_reducible repeat (first | refine blk_drewN ?_ _ | refine blk_drew ?_ | refine blk_alloc ?_ _)); exact BK236.out⟩, ⟨by repeat (first | (with_reducible first | exact HB.out | apply below_alloc | apply pw_below_drewN | apply below_drew1 | refine below_set ?_ GE235.out | refine below_set ?_ GE236.out) | exact HB.out)⟩⟩
  · replace c4 := Bool.eq_false_iff.mpr c4
    subst c4
    have H1 : (some false) = some r := by rw [if_neg (show ¬ (false = true) by decide)] at H; exact H
    clear H
    have H := H1
    clear H1
    obtain rfl := Option.some.inj H
    go_enter Try.func7, Try.ntmps7
    go_wp2_with (first | ((with_reducible refine gate_dst (N := 2) rfl ?_); (try (refine gate_guard (by rfl) ?_; dsimp only)); refine box_event ?hg (N := 2) ?hd (cs := #[.slice A0_0 l0_0.length c0_0, .int .u8 a0_1]) (t := 24) ?hr ?_; (case hd => rfl); (case hg => rfl); (case hr => first | (go_simp; done) | (go_simp; rfl)); intro gb235 hg w35 hbox hb; have n0_ := Aside0.mk (below_step (by repeat (first | (with_reducible first | exact HB.out | apply below_alloc | apply pw_below_drewN | apply below_drew1) | exact HB.out)) hb); have n1_ := Aside0.mk (hbox); have n2_ := Aside0.mk ((by rw [hg]; exact (below_size (by repeat (first | (with_reducible first | exact HB.out | apply below_alloc | apply pw_below_drewN | apply below_drew1) | exact HB.out))) : w.heap.size ≤ gb235)); have n3_ := Aside0.mk ((by rw [hg]; exact (below_size (by repeat (first | (with_reducible first | exact HB.out | apply below_alloc | apply pw_below_drewN | apply below_drew1) | exact HB.out))) : w.heap.size ≤ gb235)); clear HB; have HB := n0_; have BK235 := n1_; have GW235 := n2_; have GE235 := n3_; clear n0_ n1_ n2_ n3_; clear hb hbox hg) | ((with_reducible refine gate_dst (N := 3) rfl ?_); (try (refine gate_guard (by rfl) ?_; dsimp only)); refine box_event ?hg (N := 3) ?hd (cs := #[.slice A1_0 l1_0.length c1_0, .int .u8 a1_1]) (t := 24) ?hr ?_; (case hd => rfl); (case hg => rfl); (case hr => first | (go_simp; done) | (go_simp; rfl)); intro gb236 hg w36 hbox hb; have n0_ := Aside0.mk (blk_below (g := gb235) (o := .cells #[.slice A0_0 l0_0.length c0_0, .int .u8 a0_1] 24 (0, 0)) (by (with_reducible repeat (first | refine blk_drewN ?_ _ | refine blk_drew ?_ | refine blk_alloc ?_ _)); exact BK235.out) hb); have n1_ := Aside0.mk (below_step (by repeat (first | (with_reducible first | exact HB.out | apply below_alloc | apply pw_below_drewN | apply below_drew1 | refine below_set ?_ GE235.out) | exact HB.out)) hb); have n2_ := Aside0.mk (hbox); have n3_ := Aside0.mk ((by rw [hg]; exact (below_size (by repeat (first | (with_reducible first | exact HB.out | apply below_alloc | apply pw_below_drewN | apply below_drew1 | refine below_set ?_ GE235.out) | exact HB.out))) : w.heap.size ≤ gb236)); have n4_ := Aside0.mk ((by rw [hg]; exact (below_size (by repeat (first | (with_reducible first | exact HB.out | apply below_alloc | apply pw_below_drewN | apply below_drew1 | refine below_set ?_ GE235.out) | exact HB.out))) : w.heap.size ≤ gb236)); have n5_ := Aside0.mk ((by rw [hg]; exact Nat.ne_of_lt (blk_lt (g := gb235) (o := .cells #[.slice A0_0 l0_0.length c0_0, .int .u8 a0_1] 24 (0, 0)) (by (with_reducible repeat (first | refine blk_drewN ?_ _ | refine blk_drew ?_ | refine blk_alloc ?_ _)); exact BK235.out)) : gb235 ≠ gb236)); have n6_ := Aside0.mk ((by rw [hg]; exact Nat.ne_of_gt (blk_lt (g := gb235) (o := .cells #[.slice A0_0 l0_0.length c0_0, .int .u8 a0_1] 24 (0, 0)) (by (with_reducible repeat (first | refine blk_drewN ?_ _ | refine blk_drew ?_ | refine blk_alloc ?_ _)); exact BK235.out)) : gb236 ≠ gb235)); clear BK235; clear HB; have BK235 := n0_; have HB := n1_; have BK236 := n2_; have GW236 := n3_; have GE236 := n4_; have NB235_236 := n5_; have NB236_235 := n6_; clear n0_ n1_ n2_ n3_ n4_ n5_ n6_; clear hb hbox hg) | ((with_reducible refine gate_callee (f := 11) rfl ?_); refine goesL_ (some 22) rfl rfl Try.func11 (by kernel_rfl) rfl #[] rfl (by (try simp only [List.map_toArray, List.map_cons, List.map_nil]); first | done | rfl | (simp only [List.length_drop, List.length_take]; rfl)) ?_; (with_reducible refine (schismalaw34_known.calls k  false _ A3.out).mono ?_); rintro e w37 ⟨rfl, hb⟩; refine ⟨_, rfl, ?_⟩; have n0_ := Aside0.mk (blk_below (g := gb235) (o := .cells #[.slice A0_0 l0_0.length c0_0, .int .u8 a0_1] 24 (0, 0)) (by (with_reducible repeat (first | refine blk_drewN ?_ _ | refine blk_drew ?_ | refine blk_alloc ?_ _)); exact BK235.out) hb); have n1_ := Aside0.mk (blk_below (g := gb236) (o := .cells #[.slice A1_0 l1_0.length c1_0, .int .u8 a1_1] 24 (0, 0)) (by (with_reducible repeat (first | refine blk_drewN ?_ _ | refine blk_drew ?_ | refine blk_alloc ?_ _)); exact BK236.out) hb); have n2_ := Aside0.mk (below_step (by repeat (first | (with_reducible first | exact HB.out | apply below_alloc | apply pw_below_drewN | apply below_drew1 | refine below_set ?_ GE235.out | refine below_set ?_ GE236.out) | exact HB.out)) hb); clear BK235; clear BK236; clear HB; have BK235 := n0_; have BK236 := n1_; have HB := n2_; clear n0_ n1_ n2_; (try clear hb); (try clear hb2); (try clear hk); (try clear hi)))
    go_ret
    exact ⟨by first | rfl | (simp [errW_none, errW_some] <;> rfl) | (simp [*, errW_none, errW_some] <;> rfl), by repeat (first | (with_reducible first | exact HB.out | apply below_alloc | apply pw_below_drewN | apply below_drew1 | refine below_set ?_ GE235.out | refine below_set ?_ GE236.out) | exact HB.out)⟩

end Go.Proofs.Ytpommkpgiogjgaa.X
