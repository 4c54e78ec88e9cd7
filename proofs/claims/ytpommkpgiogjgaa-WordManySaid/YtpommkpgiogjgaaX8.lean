-- Printed by a program of this session's (the kit's print, told of functions proved by hand). Not trusted: Lean checks it.
import Derived.Test.YtpommkpgiogjgaaX0
import Derived.Test.YtpommkpgiogjgaaX4
import Derived.Test.YtpommkpgiogjgaaX6
import Derived.Test.YtpommkpgiogjgaaENeck
namespace Go.Proofs.Ytpommkpgiogjgaa.X
open Go.RowKit Go.Proofs.YtpommkpgiogjgaaW.PrintWords Go.Proofs.YtpommkpgiogjgaaW.PrintLast Go.Proofs.YtpommkpgiogjgaaW.PrintMore
attribute [local go_sem] max2_int min2_int max_two min_two max_three min_three max_four min_four   -- for this text's walks alone
set_option linter.unusedVariables false
set_option linter.unusedSimpArgs false

/-! ### schismalaw34_WordMany: function 6 -/
mutual
def schismalaw34_WordMany.j0 : Nat → Int → List ByteArray → Int → Bool → Option (Bool)
  | 0, _, _, _, _ => none
  | k + 1, x3, x4, x5, x59 => if x59 = true then (some false) else (if x3 > 59 then (if (x4.length : Int) = 0 then (some (x5 == 16)) else (some false)) else (schismalaw34_WordMany.l0 k x3 x4 x5 (⟨#[]⟩ : ByteArray) 0))
def schismalaw34_WordMany.l0 : Nat → Int → List ByteArray → Int → ByteArray → Int → Option (Bool)
  | 0, _, _, _, _, _ => none
  | k + 1, x3, x4, x5, x11, x12 => if x12 < x3 then (if x11.size + 1 ≤ 9223372036854775807 then (schismalaw34_WordMany.l0 k x3 x4 x5 (x11 ++ (⟨#[97]⟩ : ByteArray)) (wrap64 (x12 + 1))) else (none)) else (if x5 = 0 then (if x11.size + 1 ≤ 9223372036854775807 then ((schismalaw34_same.f k x4 (([x11 ++ (⟨#[98]⟩ : ByteArray)] : List ByteArray))).bind fun t234 => (some t234)) else (none)) else (some false))
end
def schismalaw34_WordMany.f (k : Nat) (a0 : Int) : Option (Bool) := (schismalaw34_known.f k).bind fun t209 => (if t209 = true then ((word_Necklaces.f (([wrap64 (Int.tmod a0 64), 1] : List Int))).bind fun bt213 => ((word_Necklaces.f (([wrap64 (9 + (Int.tmod (wrap64 (Int.tmod a0 64)) 12)), wrap64 (9 + (Int.tmod (wrap64 (Int.tmod a0 64)) 12)), wrap64 (9 + (Int.tmod (wrap64 (Int.tmod a0 64)) 12))] : List Int))).bind fun bt220 => (if 27 ≤ 35184372088832 then ((word_Necklaces.f (List.replicate 27 0)).bind fun bt227 => (if bt227.2 = 4 then (if (wrap64 (3 * (wrap64 (9 + (Int.tmod (wrap64 (Int.tmod a0 64)) 12))))) ≤ 60 then (if bt220.2 = 4 then (if (wrap64 (3 * (wrap64 (9 + (Int.tmod (wrap64 (Int.tmod a0 64)) 12))))) > 60 then (schismalaw34_WordMany.j0 k (wrap64 (Int.tmod a0 64)) bt213.1 bt213.2 (bt220.2 != 16)) else (schismalaw34_WordMany.j0 k (wrap64 (Int.tmod a0 64)) bt213.1 bt213.2 false)) else (schismalaw34_WordMany.j0 k (wrap64 (Int.tmod a0 64)) bt213.1 bt213.2 true)) else (if (wrap64 (3 * (wrap64 (9 + (Int.tmod (wrap64 (Int.tmod a0 64)) 12))))) > 60 then (schismalaw34_WordMany.j0 k (wrap64 (Int.tmod a0 64)) bt213.1 bt213.2 (bt220.2 != 16)) else (schismalaw34_WordMany.j0 k (wrap64 (Int.tmod a0 64)) bt213.1 bt213.2 false))) else (schismalaw34_WordMany.j0 k (wrap64 (Int.tmod a0 64)) bt213.1 bt213.2 true))) else (none)))) else (some false))
theorem schismalaw34_WordMany.mono_l : ∀ k, (∀ y0 y1 y2 y3, LeO (schismalaw34_WordMany.j0 k y0 y1 y2 y3) (schismalaw34_WordMany.j0 (k + 1) y0 y1 y2 y3)) ∧ (∀ y0 y1 y2 y3 y4, LeO (schismalaw34_WordMany.l0 k y0 y1 y2 y3 y4) (schismalaw34_WordMany.l0 (k + 1) y0 y1 y2 y3 y4))
  | 0 => ⟨fun _ _ _ _ r h => by simp [schismalaw34_WordMany.j0] at h, fun _ _ _ _ _ r h => by simp [schismalaw34_WordMany.l0] at h⟩
  | k + 1 => by
    obtain ⟨ih0, ih1⟩ := schismalaw34_WordMany.mono_l k
    refine ⟨?_, ?_⟩
    · intro y0 y1 y2 y3
      unfold schismalaw34_WordMany.j0
      repeat' first
      | (with_reducible exact ih0 _ _ _ _)
      | (with_reducible exact ih1 _ _ _ _ _)
      | (with_reducible exact schismalaw34_known.mono _)
      | (with_reducible exact schismalaw34_same.mono _ _ _)
      | (with_reducible exact LeO.refl _)
      | (with_reducible exact LeO.none _)
      | (with_reducible refine LeO.ite ?_ ?_)
      | (with_reducible refine LeO.bind ?_ (fun _ => ?_))
      | exact ih0 _ _ _ _
      | exact ih1 _ _ _ _ _
      | exact schismalaw34_known.mono _
      | exact schismalaw34_same.mono _ _ _
      | exact LeO.none _
      | refine LeO.ite ?_ ?_
      | refine LeO.bind ?_ (fun _ => ?_)
    · intro y0 y1 y2 y3 y4
      unfold schismalaw34_WordMany.l0
      repeat' first
      | (with_reducible exact ih0 _ _ _ _)
      | (with_reducible exact ih1 _ _ _ _ _)
      | (with_reducible exact schismalaw34_known.mono _)
      | (with_reducible exact schismalaw34_same.mono _ _ _)
      | (with_reducible exact LeO.refl _)
      | (with_reducible exact LeO.none _)
      | (with_reducible refine LeO.ite ?_ ?_)
      | (with_reducible refine LeO.bind ?_ (fun _ => ?_))
      | exact ih0 _ _ _ _
      | exact ih1 _ _ _ _ _
      | exact schismalaw34_known.mono _
      | exact schismalaw34_same.mono _ _ _
      | exact LeO.none _
      | refine LeO.ite ?_ ?_
      | refine LeO.bind ?_ (fun _ => ?_)
theorem schismalaw34_WordMany.mono : ∀ a0 k, LeO (schismalaw34_WordMany.f k a0) (schismalaw34_WordMany.f (k + 1) a0) := by
  intro a0 k
  obtain ⟨ih0, ih1⟩ := schismalaw34_WordMany.mono_l k
  unfold schismalaw34_WordMany.f
  repeat' first
      | (with_reducible exact ih0 _ _ _ _)
      | (with_reducible exact ih1 _ _ _ _ _)
      | (with_reducible exact schismalaw34_known.mono _)
      | (with_reducible exact schismalaw34_same.mono _ _ _)
      | (with_reducible exact LeO.refl _)
      | (with_reducible exact LeO.none _)
      | (with_reducible refine LeO.ite ?_ ?_)
      | (with_reducible refine LeO.bind ?_ (fun _ => ?_))
      | exact ih0 _ _ _ _
      | exact ih1 _ _ _ _ _
      | exact schismalaw34_known.mono _
      | exact schismalaw34_same.mono _ _ _
      | exact LeO.none _
      | refine LeO.ite ?_ ?_
      | refine LeO.bind ?_ (fun _ => ?_)
set_option maxHeartbeats 8000000 in
set_option maxRecDepth 100000 in
theorem schismalaw34_WordMany.calls (k : Nat) (a0 : Int) (r : Bool) (w : World) (h : schismalaw34_WordMany.f k a0 = some r) :
    Calls Try.prog 6 #[.int .u8 a0] w fun e w' => e = .returned (.bool r) ∧ Below w.heap.size w w' := by
  have HB := Aside0.mk (Below.refl w.heap.size w)
  have H : ((schismalaw34_known.f k).bind fun t209 => (if t209 = true then ((word_Necklaces.f (([wrap64 (Int.tmod a0 64), 1] : List Int))).bind fun bt213 => ((word_Necklaces.f (([wrap64 (9 + (Int.tmod (wrap64 (Int.tmod a0 64)) 12)), wrap64 (9 + (Int.tmod (wrap64 (Int.tmod a0 64)) 12)), wrap64 (9 + (Int.tmod (wrap64 (Int.tmod a0 64)) 12))] : List Int))).bind fun bt220 => (if 27 ≤ 35184372088832 then ((word_Necklaces.f (List.replicate 27 0)).bind fun bt227 => (if bt227.2 = 4 then (if (wrap64 (3 * (wrap64 (9 + (Int.tmod (wrap64 (Int.tmod a0 64)) 12))))) ≤ 60 then (if bt220.2 = 4 then (if (wrap64 (3 * (wrap64 (9 + (Int.tmod (wrap64 (Int.tmod a0 64)) 12))))) > 60 then (schismalaw34_WordMany.j0 k (wrap64 (Int.tmod a0 64)) bt213.1 bt213.2 (bt220.2 != 16)) else (schismalaw34_WordMany.j0 k (wrap64 (Int.tmod a0 64)) bt213.1 bt213.2 false)) else (schismalaw34_WordMany.j0 k (wrap64 (Int.tmod a0 64)) bt213.1 bt213.2 true)) else (if (wrap64 (3 * (wrap64 (9 + (Int.tmod (wrap64 (Int.tmod a0 64)) 12))))) > 60 then (schismalaw34_WordMany.j0 k (wrap64 (Int.tmod a0 64)) bt213.1 bt213.2 (bt220.2 != 16)) else (schismalaw34_WordMany.j0 k (wrap64 (Int.tmod a0 64)) bt213.1 bt213.2 false))) else (schismalaw34_WordMany.j0 k (wrap64 (Int.tmod a0 64)) bt213.1 bt213.2 true))) else (none)))) else (some false))) = some r := h
  clear h
  replace H := Option.bind_eq_some_iff.mp H
  obtain ⟨t209, A20, H⟩ := H
  replace H : (if t209 = true then ((word_Necklaces.f (([wrap64 (Int.tmod a0 64), 1] : List Int))).bind fun bt213 => ((word_Necklaces.f (([wrap64 (9 + (Int.tmod (wrap64 (Int.tmod a0 64)) 12)), wrap64 (9 + (Int.tmod (wrap64 (Int.tmod a0 64)) 12)), wrap64 (9 + (Int.tmod (wrap64 (Int.tmod a0 64)) 12))] : List Int))).bind fun bt220 => (if 27 ≤ 35184372088832 then ((word_Necklaces.f (List.replicate 27 0)).bind fun bt227 => (if bt227.2 = 4 then (if (wrap64 (3 * (wrap64 (9 + (Int.tmod (wrap64 (Int.tmod a0 64)) 12))))) ≤ 60 then (if bt220.2 = 4 then (if (wrap64 (3 * (wrap64 (9 + (Int.tmod (wrap64 (Int.tmod a0 64)) 12))))) > 60 then (schismalaw34_WordMany.j0 k (wrap64 (Int.tmod a0 64)) bt213.1 bt213.2 (bt220.2 != 16)) else (schismalaw34_WordMany.j0 k (wrap64 (Int.tmod a0 64)) bt213.1 bt213.2 false)) else (schismalaw34_WordMany.j0 k (wrap64 (Int.tmod a0 64)) bt213.1 bt213.2 true)) else (if (wrap64 (3 * (wrap64 (9 + (Int.tmod (wrap64 (Int.tmod a0 64)) 12))))) > 60 then (schismalaw34_WordMany.j0 k (wrap64 (Int.tmod a0 64)) bt213.1 bt213.2 (bt220.2 != 16)) else (schismalaw34_WordMany.j0 k (wrap64 (Int.tmod a0 64)) bt213.1 bt213.2 false))) else (schismalaw34_WordMany.j0 k (wrap64 (Int.tmod a0 64)) bt213.1 bt213.2 true))) else (none)))) else (some false)) = some r := H
  have A2 := Aside0.mk A20
  clear A20
  by_cases c3 : t209 = true
  · subst c3
    have H1 : ((word_Necklaces.f (([wrap64 (Int.tmod a0 64), 1] : List Int))).bind fun bt213 => ((word_Necklaces.f (([wrap64 (9 + (Int.tmod (wrap64 (Int.tmod a0 64)) 12)), wrap64 (9 + (Int.tmod (wrap64 (Int.tmod a0 64)) 12)), wrap64 (9 + (Int.tmod (wrap64 (Int.tmod a0 64)) 12))] : List Int))).bind fun bt220 => (if 27 ≤ 35184372088832 then ((word_Necklaces.f (List.replicate 27 0)).bind fun bt227 => (if bt227.2 = 4 then (if (wrap64 (3 * (wrap64 (9 + (Int.tmod (wrap64 (Int.tmod a0 64)) 12))))) ≤ 60 then (if bt220.2 = 4 then (if (wrap64 (3 * (wrap64 (9 + (Int.tmod (wrap64 (Int.tmod a0 64)) 12))))) > 60 then (schismalaw34_WordMany.j0 k (wrap64 (Int.tmod a0 64)) bt213.1 bt213.2 (bt220.2 != 16)) else (schismalaw34_WordMany.j0 k (wrap64 (Int.tmod a0 64)) bt213.1 bt213.2 false)) else (schismalaw34_WordMany.j0 k (wrap64 (Int.tmod a0 64)) bt213.1 bt213.2 true)) else (if (wrap64 (3 * (wrap64 (9 + (Int.tmod (wrap64 (Int.tmod a0 64)) 12))))) > 60 then (schismalaw34_WordMany.j0 k (wrap64 (Int.tmod a0 64)) bt213.1 bt213.2 (bt220.2 != 16)) else (schismalaw34_WordMany.j0 k (wrap64 (Int.tmod a0 64)) bt213.1 bt213.2 false))) else (schismalaw34_WordMany.j0 k (wrap64 (Int.tmod a0 64)) bt213.1 bt213.2 true))) else (none)))) = some r := by rw [if_pos rfl] at H; exact H
    clear H
    have H := H1
    clear H1
    obtain ⟨y210, hy210⟩ : ∃ y_ : List Int, y_ = (([wrap64 (Int.tmod a0 64), 1] : List Int)) := ⟨_, rfl⟩
    replace H : ((word_Necklaces.f y210).bind fun bt213 => ((word_Necklaces.f (([wrap64 (9 + (Int.tmod (wrap64 (Int.tmod a0 64)) 12)), wrap64 (9 + (Int.tmod (wrap64 (Int.tmod a0 64)) 12)), wrap64 (9 + (Int.tmod (wrap64 (Int.tmod a0 64)) 12))] : List Int))).bind fun bt220 => (if 27 ≤ 35184372088832 then ((word_Necklaces.f (List.replicate 27 0)).bind fun bt227 => (if bt227.2 = 4 then (if (wrap64 (3 * (wrap64 (9 + (Int.tmod (wrap64 (Int.tmod a0 64)) 12))))) ≤ 60 then (if bt220.2 = 4 then (if (wrap64 (3 * (wrap64 (9 + (Int.tmod (wrap64 (Int.tmod a0 64)) 12))))) > 60 then (schismalaw34_WordMany.j0 k (wrap64 (Int.tmod a0 64)) bt213.1 bt213.2 (bt220.2 != 16)) else (schismalaw34_WordMany.j0 k (wrap64 (Int.tmod a0 64)) bt213.1 bt213.2 false)) else (schismalaw34_WordMany.j0 k (wrap64 (Int.tmod a0 64)) bt213.1 bt213.2 true)) else (if (wrap64 (3 * (wrap64 (9 + (Int.tmod (wrap64 (Int.tmod a0 64)) 12))))) > 60 then (schismalaw34_WordMany.j0 k (wrap64 (Int.tmod a0 64)) bt213.1 bt213.2 (bt220.2 != 16)) else (schismalaw34_WordMany.j0 k (wrap64 (Int.tmod a0 64)) bt213.1 bt213.2 false))) else (schismalaw34_WordMany.j0 k (wrap64 (Int.tmod a0 64)) bt213.1 bt213.2 true))) else (none)))) = some r := by first | (rw [hy210]; with_reducible exact H) | (have H2_ := (Option.bind_some _ _).symm.trans H; rw [hy210]; with_reducible exact H2_) | (have H2_ := (Option.bind_some _ _).symm.trans H; with_reducible exact H2_) | with_reducible exact H | (rw [hy210]; exact H) | exact H
    have Ny210 := Aside0.mk hy210
    clear hy210
    replace H := Option.bind_eq_some_iff.mp H
    obtain ⟨⟨t213, t214⟩, A40, H⟩ := H
    replace H : ((word_Necklaces.f (([wrap64 (9 + (Int.tmod (wrap64 (Int.tmod a0 64)) 12)), wrap64 (9 + (Int.tmod (wrap64 (Int.tmod a0 64)) 12)), wrap64 (9 + (Int.tmod (wrap64 (Int.tmod a0 64)) 12))] : List Int))).bind fun bt220 => (if 27 ≤ 35184372088832 then ((word_Necklaces.f (List.replicate 27 0)).bind fun bt227 => (if bt227.2 = 4 then (if (wrap64 (3 * (wrap64 (9 + (Int.tmod (wrap64 (Int.tmod a0 64)) 12))))) ≤ 60 then (if bt220.2 = 4 then (if (wrap64 (3 * (wrap64 (9 + (Int.tmod (wrap64 (Int.tmod a0 64)) 12))))) > 60 then (schismalaw34_WordMany.j0 k (wrap64 (Int.tmod a0 64)) t213 t214 (bt220.2 != 16)) else (schismalaw34_WordMany.j0 k (wrap64 (Int.tmod a0 64)) t213 t214 false)) else (schismalaw34_WordMany.j0 k (wrap64 (Int.tmod a0 64)) t213 t214 true)) else (if (wrap64 (3 * (wrap64 (9 + (Int.tmod (wrap64 (Int.tmod a0 64)) 12))))) > 60 then (schismalaw34_WordMany.j0 k (wrap64 (Int.tmod a0 64)) t213 t214 (bt220.2 != 16)) else (schismalaw34_WordMany.j0 k (wrap64 (Int.tmod a0 64)) t213 t214 false))) else (schismalaw34_WordMany.j0 k (wrap64 (Int.tmod a0 64)) t213 t214 true))) else (none))) = some r := H
    have A4 := Aside0.mk A40
    clear A40
    obtain ⟨y217, hy217⟩ : ∃ y_ : List Int, y_ = (([wrap64 (9 + (Int.tmod (wrap64 (Int.tmod a0 64)) 12)), wrap64 (9 + (Int.tmod (wrap64 (Int.tmod a0 64)) 12)), wrap64 (9 + (Int.tmod (wrap64 (Int.tmod a0 64)) 12))] : List Int)) := ⟨_, rfl⟩
    replace H : ((word_Necklaces.f y217).bind fun bt220 => (if 27 ≤ 35184372088832 then ((word_Necklaces.f (List.replicate 27 0)).bind fun bt227 => (if bt227.2 = 4 then (if (wrap64 (3 * (wrap64 (9 + (Int.tmod (wrap64 (Int.tmod a0 64)) 12))))) ≤ 60 then (if bt220.2 = 4 then (if (wrap64 (3 * (wrap64 (9 + (Int.tmod (wrap64 (Int.tmod a0 64)) 12))))) > 60 then (schismalaw34_WordMany.j0 k (wrap64 (Int.tmod a0 64)) t213 t214 (bt220.2 != 16)) else (schismalaw34_WordMany.j0 k (wrap64 (Int.tmod a0 64)) t213 t214 false)) else (schismalaw34_WordMany.j0 k (wrap64 (Int.tmod a0 64)) t213 t214 true)) else (if (wrap64 (3 * (wrap64 (9 + (Int.tmod (wrap64 (Int.tmod a0 64)) 12))))) > 60 then (schismalaw34_WordMany.j0 k (wrap64 (Int.tmod a0 64)) t213 t214 (bt220.2 != 16)) else (schismalaw34_WordMany.j0 k (wrap64 (Int.tmod a0 64)) t213 t214 false))) else (schismalaw34_WordMany.j0 k (wrap64 (Int.tmod a0 64)) t213 t214 true))) else (none))) = some r := by first | (rw [hy217]; with_reducible exact H) | (have H2_ := (Option.bind_some _ _).symm.trans H; rw [hy217]; with_reducible exact H2_) | (have H2_ := (Option.bind_some _ _).symm.trans H; with_reducible exact H2_) | with_reducible exact H | (rw [hy217]; exact H) | exact H
    have Ny217 := Aside0.mk hy217
    clear hy217
    replace H := Option.bind_eq_some_iff.mp H
    obtain ⟨⟨t220, t221⟩, A50, H⟩ := H
    replace H : (if 27 ≤ 35184372088832 then ((word_Necklaces.f (List.replicate 27 0)).bind fun bt227 => (if bt227.2 = 4 then (if (wrap64 (3 * (wrap64 (9 + (Int.tmod (wrap64 (Int.tmod a0 64)) 12))))) ≤ 60 then (if t221 = 4 then (if (wrap64 (3 * (wrap64 (9 + (Int.tmod (wrap64 (Int.tmod a0 64)) 12))))) > 60 then (schismalaw34_WordMany.j0 k (wrap64 (Int.tmod a0 64)) t213 t214 (t221 != 16)) else (schismalaw34_WordMany.j0 k (wrap64 (Int.tmod a0 64)) t213 t214 false)) else (schismalaw34_WordMany.j0 k (wrap64 (Int.tmod a0 64)) t213 t214 true)) else (if (wrap64 (3 * (wrap64 (9 + (Int.tmod (wrap64 (Int.tmod a0 64)) 12))))) > 60 then (schismalaw34_WordMany.j0 k (wrap64 (Int.tmod a0 64)) t213 t214 (t221 != 16)) else (schismalaw34_WordMany.j0 k (wrap64 (Int.tmod a0 64)) t213 t214 false))) else (schismalaw34_WordMany.j0 k (wrap64 (Int.tmod a0 64)) t213 t214 true))) else (none)) = some r := H
    have A5 := Aside0.mk A50
    clear A50
    by_cases c6 : 27 ≤ 35184372088832
    · rw [if_pos c6] at H
      have c6b0 := eq_true c6
      have c6b1 : decide (27 ≤ 35184372088832) = true := decide_eq_true c6
      clear c6
      obtain ⟨y224, hy224⟩ : ∃ y_ : List Int, y_ = (List.replicate 27 0) := ⟨_, rfl⟩
      replace H : ((word_Necklaces.f y224).bind fun bt227 => (if bt227.2 = 4 then (if (wrap64 (3 * (wrap64 (9 + (Int.tmod (wrap64 (Int.tmod a0 64)) 12))))) ≤ 60 then (if t221 = 4 then (if (wrap64 (3 * (wrap64 (9 + (Int.tmod (wrap64 (Int.tmod a0 64)) 12))))) > 60 then (schismalaw34_WordMany.j0 k (wrap64 (Int.tmod a0 64)) t213 t214 (t221 != 16)) else (schismalaw34_WordMany.j0 k (wrap64 (Int.tmod a0 64)) t213 t214 false)) else (schismalaw34_WordMany.j0 k (wrap64 (Int.tmod a0 64)) t213 t214 true)) else (if (wrap64 (3 * (wrap64 (9 + (Int.tmod (wrap64 (Int.tmod a0 64)) 12))))) > 60 then (schismalaw34_WordMany.j0 k (wrap64 (Int.tmod a0 64)) t213 t214 (t221 != 16)) else (schismalaw34_WordMany.j0 k (wrap64 (Int.tmod a0 64)) t213 t214 false))) else (schismalaw34_WordMany.j0 k (wrap64 (Int.tmod a0 64)) t213 t214 true))) = some r := by first | (rw [hy224]; with_reducible exact H) | (have H2_ := (Option.bind_some _ _).symm.trans H; rw [hy224]; with_reducible exact H2_) | (have H2_ := (Option.bind_some _ _).symm.trans H; with_reducible exact H2_) | with_reducible exact H | (rw [hy224]; exact H) | exact H
      have Ny224 := Aside0.mk hy224
      clear hy224
      replace H := Option.bind_eq_some_iff.mp H
      obtain ⟨⟨t227, t228⟩, A70, H⟩ := H
      replace H : (if t228 = 4 then (if (wrap64 (3 * (wrap64 (9 + (Int.tmod (wrap64 (Int.tmod a0 64)) 12))))) ≤ 60 then (if t221 = 4 then (if (wrap64 (3 * (wrap64 (9 + (Int.tmod (wrap64 (Int.tmod a0 64)) 12))))) > 60 then (schismalaw34_WordMany.j0 k (wrap64 (Int.tmod a0 64)) t213 t214 (t221 != 16)) else (schismalaw34_WordMany.j0 k (wrap64 (Int.tmod a0 64)) t213 t214 false)) else (schismalaw34_WordMany.j0 k (wrap64 (Int.tmod a0 64)) t213 t214 true)) else (if (wrap64 (3 * (wrap64 (9 + (Int.tmod (wrap64 (Int.tmod a0 64)) 12))))) > 60 then (schismalaw34_WordMany.j0 k (wrap64 (Int.tmod a0 64)) t213 t214 (t221 != 16)) else (schismalaw34_WordMany.j0 k (wrap64 (Int.tmod a0 64)) t213 t214 false))) else (schismalaw34_WordMany.j0 k (wrap64 (Int.tmod a0 64)) t213 t214 true)) = some r := H
      have A7 := Aside0.mk A70
      clear A70
      have HC8 := Aside0.mk H
      clear H
      go_enter Try.func6, Try.ntmps6
      go_upto_region 8 with (first | ((with_reducible refine gate_callee (f := 11) rfl ?_); refine goesL_ (some 13) rfl rfl Try.func11 (by kernel_rfl) rfl #[] rfl (by (try simp only [List.map_toArray, List.map_cons, List.map_nil]); first | done | rfl | (simp only [List.length_drop, List.length_take]; rfl)) ?_; (with_reducible refine (schismalaw34_known.calls k  true _ A2.out).mono ?_); rintro e w9 ⟨rfl, hb⟩; refine ⟨_, rfl, ?_⟩; have n0_ := Aside0.mk (below_step (by repeat (first | (with_reducible first | exact HB.out | apply below_alloc | apply pw_below_drewN | apply below_drew1) | exact HB.out)) hb); clear HB; have HB := n0_; clear n0_; (try clear hb); (try clear hb2); (try clear hk); (try clear hi)) | ((with_reducible refine gate_dst (N := 20) rfl ?_); (try (refine gate_guard (by rfl) ?_; dsimp only)); refine Kd.R_lit (Kd.int .i64) _ 3 ?hg (N := 20) ?hd (xs := ([wrap64 (Int.tmod a0 64), 1] : List Int)) (inner := [.int .i64 (wrap64 (Int.tmod a0 64)), .int .i64 1]) (ok := fun _ => True) (okp := fun _ => True) ?hr ?hp (fun _ hk => hk) trivial (Below.refl _ _) (Nat.le_refl _) (by simp) ?_; (case hd => rfl); (case hg => rfl); (case hr => first | (go_simp; done) | (go_simp; rfl)); (case hp => exact (Reps.one (show Kd.M (Kd.int .i64) _ _ _ (wrap64 (Int.tmod a0 64)) [.int .i64 (wrap64 (Int.tmod a0 64))] from rfl) (Reps.one (show Kd.M (Kd.int .i64) _ _ _ 1 [.int .i64 1] from rfl) (Reps.none _ _)))); intro v211 w10 ho11 hb hg_ hnew_; clear hg_ hnew_; (first | rw [← Ny210.out] at ho11 | (simp only [Int.reduceToNat] at ho11; rw [← Ny210.out] at ho11)); have n0_ := Aside0.mk (Kd.R_lower ho11 (below_size (by repeat (first | (with_reducible first | exact HB.out | apply below_alloc | apply pw_below_drewN | apply below_drew1) | exact HB.out)))); have n1_ := Aside0.mk (below_step (by repeat (first | (with_reducible first | exact HB.out | apply below_alloc | apply pw_below_drewN | apply below_drew1) | exact HB.out)) hb); clear HB; have HO212 := n0_; have HB := n1_; clear n0_ n1_; clear hb ho11; obtain ⟨Ao12, co12, eo12⟩ := Kd.R_slice HO212.out; subst eo12) | ((with_reducible refine gate_callee (f := 17) rfl ?_); refine goesL_ (some 21) rfl rfl Try.func17 (by kernel_rfl) rfl #[.slice Ao12 y210.length co12] rfl (by (try simp only [List.map_toArray, List.map_cons, List.map_nil]); first | done | rfl | (simp only [List.length_drop, List.length_take]; rfl)) ?_; (with_reducible refine (word_Necklaces.calls _ _ y210 t213 t214 _ ?side1 ?side2 A4.out).mono ?_); (case side1 => repeat (first | exact (Kd.R_reads' HO212.out).2.2 | (with_reducible refine Kd.C_alloc ?_ _) | (with_reducible refine Kd.C_drewN ?_ _) | (with_reducible refine Kd.C_drew ?_))); (case side2 => exact (Kd.R_reads' HO212.out).2.1); rintro e w13 ⟨v215, rfl, ho0, hb⟩; refine ⟨_, rfl, ?_⟩; have n0_ := Aside0.mk (Kd.R_below (by (with_reducible repeat (first | apply Kd.R_alloc | apply Kd.R_drewN | apply Kd.R_drew)); exact HO212.out) hb); have n1_ := Aside0.mk (Kd.R_lower ho0 (below_size (by repeat (first | (with_reducible first | exact HB.out | apply below_alloc | apply pw_below_drewN | apply below_drew1) | exact HB.out)))); have n2_ := Aside0.mk (below_step (by repeat (first | (with_reducible first | exact HB.out | apply below_alloc | apply pw_below_drewN | apply below_drew1) | exact HB.out)) hb); clear HO212; clear HB; have HO212 := n0_; have HO216 := n1_; have HB := n2_; clear n0_ n1_ n2_; (try clear hb); (try clear hb2); (try clear hk); (try clear hi); (try clear ho0)) | ((with_reducible refine gate_dst (N := 31) rfl ?_); (try (refine gate_guard (by rfl) ?_; dsimp only)); refine Kd.R_lit (Kd.int .i64) _ 3 ?hg (N := 31) ?hd (xs := ([wrap64 (9 + (Int.tmod (wrap64 (Int.tmod a0 64)) 12)), wrap64 (9 + (Int.tmod (wrap64 (Int.tmod a0 64)) 12)), wrap64 (9 + (Int.tmod (wrap64 (Int.tmod a0 64)) 12))] : List Int)) (inner := [.int .i64 (wrap64 (9 + (Int.tmod (wrap64 (Int.tmod a0 64)) 12))), .int .i64 (wrap64 (9 + (Int.tmod (wrap64 (Int.tmod a0 64)) 12))), .int .i64 (wrap64 (9 + (Int.tmod (wrap64 (Int.tmod a0 64)) 12)))]) (ok := fun _ => True) (okp := fun _ => True) ?hr ?hp (fun _ hk => hk) trivial (Below.refl _ _) (Nat.le_refl _) (by simp) ?_; (case hd => rfl); (case hg => rfl); (case hr => first | (go_simp; done) | (go_simp; rfl)); (case hp => exact (Reps.one (show Kd.M (Kd.int .i64) _ _ _ (wrap64 (9 + (Int.tmod (wrap64 (Int.tmod a0 64)) 12))) [.int .i64 (wrap64 (9 + (Int.tmod (wrap64 (Int.tmod a0 64)) 12)))] from rfl) (Reps.one (show Kd.M (Kd.int .i64) _ _ _ (wrap64 (9 + (Int.tmod (wrap64 (Int.tmod a0 64)) 12))) [.int .i64 (wrap64 (9 + (Int.tmod (wrap64 (Int.tmod a0 64)) 12)))] from rfl) (Reps.one (show Kd.M (Kd.int .i64) _ _ _ (wrap64 (9 + (Int.tmod (wrap64 (Int.tmod a0 64)) 12))) [.int .i64 (wrap64 (9 + (Int.tmod (wrap64 (Int.tmod a0 64)) 12)))] from rfl) (Reps.none _ _))))); intro v218 w14 ho15 hb hg_ hnew_; clear hg_ hnew_; (first | rw [← Ny217.out] at ho15 | (simp only [Int.reduceToNat] at ho15; rw [← Ny217.out] at ho15)); have n0_ := Aside0.mk (Kd.R_elder' (by (with_reducible repeat (first | apply Kd.R_alloc | apply Kd.R_drewN | apply Kd.R_drew)); exact HO212.out) (Kd.R_base ho15) hb); have n1_ := Aside0.mk (Kd.R_below (by (with_reducible repeat (first | apply Kd.R_alloc | apply Kd.R_drewN | apply Kd.R_drew)); exact HO216.out) hb); have n2_ := Aside0.mk (Kd.R_lower (Kd.R_new' ho15 (Kd.R_lt (by (with_reducible repeat (first | apply Kd.R_alloc | apply Kd.R_drewN | apply Kd.R_drew)); exact HO212.out))) (below_size (by repeat (first | (with_reducible first | exact HB.out | apply below_alloc | apply pw_below_drewN | apply below_drew1) | exact HB.out)))); have n3_ := Aside0.mk (below_step (by repeat (first | (with_reducible first | exact HB.out | apply below_alloc | apply pw_below_drewN | apply below_drew1) | exact HB.out)) hb); clear HO212; clear HO216; clear HB; have HO212 := n0_; have HO216 := n1_; have HO219 := n2_; have HB := n3_; clear n0_ n1_ n2_ n3_; clear hb ho15; obtain ⟨Ao16, co16, eo16⟩ := Kd.R_slice HO219.out; subst eo16) | ((with_reducible refine gate_callee (f := 17) rfl ?_); refine goesL_ (some 32) rfl rfl Try.func17 (by kernel_rfl) rfl #[.slice Ao16 y217.length co16] rfl (by (try simp only [List.map_toArray, List.map_cons, List.map_nil]); first | done | rfl | (simp only [List.length_drop, List.length_take]; rfl)) ?_; (with_reducible refine (word_Necklaces.calls _ _ y217 t220 t221 _ ?side1 ?side2 A5.out).mono ?_); (case side1 => repeat (first | exact (Kd.R_reads' HO219.out).2.2 | (with_reducible refine Kd.C_alloc ?_ _) | (with_reducible refine Kd.C_drewN ?_ _) | (with_reducible refine Kd.C_drew ?_))); (case side2 => exact (Kd.R_reads' HO219.out).2.1); rintro e w17 ⟨v222, rfl, ho0, hb⟩; refine ⟨_, rfl, ?_⟩; have n0_ := Aside0.mk (Kd.R_below (by (with_reducible repeat (first | apply Kd.R_alloc | apply Kd.R_drewN | apply Kd.R_drew)); exact HO212.out) hb); have n1_ := Aside0.mk (Kd.R_elder' (by (with_reducible repeat (first | apply Kd.R_alloc | apply Kd.R_drewN | apply Kd.R_drew)); exact HO216.out) (Kd.R_base ho0) hb); have n2_ := Aside0.mk (Kd.R_below (by (with_reducible repeat (first | apply Kd.R_alloc | apply Kd.R_drewN | apply Kd.R_drew)); exact HO219.out) hb); have n3_ := Aside0.mk (Kd.R_lower (Kd.R_new' ho0 (Kd.R_lt (by (with_reducible repeat (first | apply Kd.R_alloc | apply Kd.R_drewN | apply Kd.R_drew)); exact HO216.out))) (below_size (by repeat (first | (with_reducible first | exact HB.out | apply below_alloc | apply pw_below_drewN | apply below_drew1) | exact HB.out)))); have n4_ := Aside0.mk (below_step (by repeat (first | (with_reducible first | exact HB.out | apply below_alloc | apply pw_below_drewN | apply below_drew1) | exact HB.out)) hb); clear HO212; clear HO216; clear HO219; clear HB; have HO212 := n0_; have HO216 := n1_; have HO219 := n2_; have HO223 := n3_; have HB := n4_; clear n0_ n1_ n2_ n3_ n4_; (try clear hb); (try clear hb2); (try clear hk); (try clear hi); (try clear ho0)) | ((with_reducible refine gate_dst (N := 36) rfl ?_); (try (refine gate_guard (by rfl) ?_; dsimp only)); refine Kd.R_make (Kd.int .i64) _ 3 rfl (N := 36) rfl 39 _ _ rfl 27 rfl rfl Try.underlying39 (.int .i64 0) 8 info3 rfl (by decide) (by omega) 0 (ok := fun _ => True) (okp := fun _ => True) rfl (fun _ hk => hk) trivial (by omega) (by omega) (Below.refl _ _) (Nat.le_refl _) ?_; intro v225 w18 ho19 hb hg_ hnew_; clear hg_ hnew_; (first | rw [← Ny224.out] at ho19 | (simp only [Int.reduceToNat] at ho19; rw [← Ny224.out] at ho19)); have n0_ := Aside0.mk (Kd.R_elder' (by (with_reducible repeat (first | apply Kd.R_alloc | apply Kd.R_drewN | apply Kd.R_drew)); exact HO212.out) (Kd.R_base ho19) hb); have n1_ := Aside0.mk (Kd.R_below (by (with_reducible repeat (first | apply Kd.R_alloc | apply Kd.R_drewN | apply Kd.R_drew)); exact HO216.out) hb); have n2_ := Aside0.mk (Kd.R_elder' (by (with_reducible repeat (first | apply Kd.R_alloc | apply Kd.R_drewN | apply Kd.R_drew)); exact HO219.out) (Kd.R_base ho19) hb); have n3_ := Aside0.mk (Kd.R_below (by (with_reducible repeat (first | apply Kd.R_alloc | apply Kd.R_drewN | apply Kd.R_drew)); exact HO223.out) hb); have n4_ := Aside0.mk (Kd.R_lower (Kd.R_new' (Kd.R_new' ho19 (Kd.R_lt (by (with_reducible repeat (first | apply Kd.R_alloc | apply Kd.R_drewN | apply Kd.R_drew)); exact HO212.out))) (Kd.R_lt (by (with_reducible repeat (first | apply Kd.R_alloc | apply Kd.R_drewN | apply Kd.R_drew)); exact HO219.out))) (below_size (by repeat (first | (with_reducible first | exact HB.out | apply below_alloc | apply pw_below_drewN | apply below_drew1) | exact HB.out)))); have n5_ := Aside0.mk (below_step (by repeat (first | (with_reducible first | exact HB.out | apply below_alloc | apply pw_below_drewN | apply below_drew1) | exact HB.out)) hb); clear HO212; clear HO216; clear HO219; clear HO223; clear HB; have HO212 := n0_; have HO216 := n1_; have HO219 := n2_; have HO223 := n3_; have HO226 := n4_; have HB := n5_; clear n0_ n1_ n2_ n3_ n4_ n5_; clear hb ho19; obtain ⟨Ao20, co20, eo20⟩ := Kd.R_slice HO226.out; subst eo20) | ((with_reducible refine gate_callee (f := 17) rfl ?_); refine goesL_ (some 37) rfl rfl Try.func17 (by kernel_rfl) rfl #[.slice Ao20 y224.length co20] rfl (by (try simp only [List.map_toArray, List.map_cons, List.map_nil]); first | done | rfl | (simp only [List.length_drop, List.length_take]; rfl)) ?_; (with_reducible refine (word_Necklaces.calls _ _ y224 t227 t228 _ ?side1 ?side2 A7.out).mono ?_); (case side1 => repeat (first | exact (Kd.R_reads' HO226.out).2.2 | (with_reducible refine Kd.C_alloc ?_ _) | (with_reducible refine Kd.C_drewN ?_ _) | (with_reducible refine Kd.C_drew ?_))); (case side2 => exact (Kd.R_reads' HO226.out).2.1); rintro e w21 ⟨v229, rfl, ho0, hb⟩; refine ⟨_, rfl, ?_⟩; have n0_ := Aside0.mk (Kd.R_below (by (with_reducible repeat (first | apply Kd.R_alloc | apply Kd.R_drewN | apply Kd.R_drew)); exact HO212.out) hb); have n1_ := Aside0.mk (Kd.R_elder' (by (with_reducible repeat (first | apply Kd.R_alloc | apply Kd.R_drewN | apply Kd.R_drew)); exact HO216.out) (Kd.R_base ho0) hb); have n2_ := Aside0.mk (Kd.R_below (by (with_reducible repeat (first | apply Kd.R_alloc | apply Kd.R_drewN | apply Kd.R_drew)); exact HO219.out) hb); have n3_ := Aside0.mk (Kd.R_elder' (by (with_reducible repeat (first | apply Kd.R_alloc | apply Kd.R_drewN | apply Kd.R_drew)); exact HO223.out) (Kd.R_base ho0) hb); have n4_ := Aside0.mk (Kd.R_below (by (with_reducible repeat (first | apply Kd.R_alloc | apply Kd.R_drewN | apply Kd.R_drew)); exact HO226.out) hb); have n5_ := Aside0.mk (Kd.R_lower (Kd.R_new' (Kd.R_new' ho0 (Kd.R_lt (by (with_reducible repeat (first | apply Kd.R_alloc | apply Kd.R_drewN | apply Kd.R_drew)); exact HO216.out))) (Kd.R_lt (by (with_reducible repeat (first | apply Kd.R_alloc | apply Kd.R_drewN | apply Kd.R_drew)); exact HO223.out))) (below_size (by repeat (first | (with_reducible first | exact HB.out | apply below_alloc | apply pw_below_drewN | apply below_drew1) | exact HB.out)))); have n6_ := Aside0.mk (below_step (by repeat (first | (with_reducible first | exact HB.out | apply below_alloc | apply pw_below_drewN | apply below_drew1) | exact HB.out)) hb); clear HO212; clear HO216; clear HO219; clear HO223; clear HO226; clear HB; have HO212 := n0_; have HO216 := n1_; have HO219 := n2_; have HO223 := n3_; have HO226 := n4_; have HO230 := n5_; have HB := n6_; clear n0_ n1_ n2_ n3_ n4_ n5_ n6_; (try clear hb); (try clear hb2); (try clear hk); (try clear hi); (try clear ho0)))
      (try simp only [Act.put, List.setIfInBounds_toArray, List.set_cons_zero, List.set_cons_succ])
      go_cut [59] (fun v59 wc => ∃ (kq : Nat) (x59_7 : Bool), v59 = .bool x59_7 ∧ Aside0 (schismalaw34_WordMany.j0 kq (wrap64 (Int.tmod a0 64)) t213 t214 x59_7 = some r) ∧ Aside0 (kq ≤ k) ∧ Aside0 (Kd.R Kd.string 9 wc w.heap.size (fun _ => True) v215 t213) ∧ Aside0 (Below w.heap.size w wc))
      case first =>
        have H := HC8.out
        clear HC8
        by_cases c22 : t228 = 4
        · rw [if_pos c22] at H
          have c22b0 : (t228 == 4) = true := beq_iff_eq.mpr c22
          have c22b1 : (t228 != 4) = false := bne_eq_false_iff_eq.mpr c22
          clear c22
          (first | rw [c22b0] | (simp only [i64_w, i32_w]; rw [c22b0]) | skip)
          by_cases c23 : (wrap64 (3 * (wrap64 (9 + (Int.tmod (wrap64 (Int.tmod a0 64)) 12))))) ≤ 60
          · rw [if_pos c23] at H
            have c23b0 : decide ((wrap64 (3 * (wrap64 (9 + (Int.tmod (wrap64 (Int.tmod a0 64)) 12))))) ≤ 60) = true := decide_eq_true c23
            clear c23
            by_cases c24 : t221 = 4
            · rw [if_pos c24] at H
              have c24b0 : (t221 == 4) = true := beq_iff_eq.mpr c24
              have c24b1 : (t221 != 4) = false := bne_eq_false_iff_eq.mpr c24
              clear c24
              by_cases c25 : (wrap64 (3 * (wrap64 (9 + (Int.tmod (wrap64 (Int.tmod a0 64)) 12))))) > 60
              · rw [if_pos c25] at H
                have c25b0 : decide (60 < (wrap64 (3 * (wrap64 (9 + (Int.tmod (wrap64 (Int.tmod a0 64)) 12)))))) = true := decide_eq_true c25
                clear c25
                have H' := Aside0.mk H
                clear H
                go_wp2
                go_meet
                case rel => exact ⟨_, ((t221 != 16)), (by first | rfl | (simp; done) | (simp [*]; done)), H', ⟨by first | omega | exact Nat.le_refl _⟩, ⟨by (with_reducible repeat (first | apply Kd.R_alloc | apply Kd.R_drewN | apply Kd.R_drew)); exact Kd.R_mono HO216.out (fun _ hk => trivial)⟩, ⟨by repeat (first | (with_reducible first | exact HB.out | apply below_alloc | apply pw_below_drewN | apply below_drew1) | exact HB.out)⟩⟩
              · rw [if_neg c25] at H
                have c25b0 : decide (60 < (wrap64 (3 * (wrap64 (9 + (Int.tmod (wrap64 (Int.tmod a0 64)) 12)))))) = false := decide_eq_false c25
                clear c25
                have H' := Aside0.mk H
                clear H
                go_wp2
                go_meet
                case rel => exact ⟨_, (false), (by first | rfl | (simp; done) | (simp [*]; done)), H', ⟨by first | omega | exact Nat.le_refl _⟩, ⟨by (with_reducible repeat (first | apply Kd.R_alloc | apply Kd.R_drewN | apply Kd.R_drew)); exact Kd.R_mono HO216.out (fun _ hk => trivial)⟩, ⟨by repeat (first | (with_reducible first | exact HB.out | apply below_alloc | apply pw_below_drewN | apply below_drew1) | exact HB.out)⟩⟩
            · rw [if_neg c24] at H
              have c24b0 : (t221 == 4) = false := beq_eq_false_iff_ne.mpr c24
              have c24b1 : (t221 != 4) = true := bne_iff_ne.mpr c24
              have H' := Aside0.mk H
              clear H
              go_wp2
              go_meet
              case rel => exact ⟨_, (true), (by first | rfl | (simp; done) | (simp [*]; done)), H', ⟨by first | omega | exact Nat.le_refl _⟩, ⟨by (with_reducible repeat (first | apply Kd.R_alloc | apply Kd.R_drewN | apply Kd.R_drew)); exact Kd.R_mono HO216.out (fun _ hk => trivial)⟩, ⟨by repeat (first | (with_reducible first | exact HB.out | apply below_alloc | apply pw_below_drewN | apply below_drew1) | exact HB.out)⟩⟩
          · rw [if_neg c23] at H
            have c23b0 : decide ((wrap64 (3 * (wrap64 (9 + (Int.tmod (wrap64 (Int.tmod a0 64)) 12))))) ≤ 60) = false := decide_eq_false c23
            clear c23
            by_cases c26 : (wrap64 (3 * (wrap64 (9 + (Int.tmod (wrap64 (Int.tmod a0 64)) 12))))) > 60
            · rw [if_pos c26] at H
              have c26b0 : decide (60 < (wrap64 (3 * (wrap64 (9 + (Int.tmod (wrap64 (Int.tmod a0 64)) 12)))))) = true := decide_eq_true c26
              clear c26
              have H' := Aside0.mk H
              clear H
              go_wp2
              go_meet
              case rel => exact ⟨_, ((t221 != 16)), (by first | rfl | (simp; done) | (simp [*]; done)), H', ⟨by first | omega | exact Nat.le_refl _⟩, ⟨by (with_reducible repeat (first | apply Kd.R_alloc | apply Kd.R_drewN | apply Kd.R_drew)); exact Kd.R_mono HO216.out (fun _ hk => trivial)⟩, ⟨by repeat (first | (with_reducible first | exact HB.out | apply below_alloc | apply pw_below_drewN | apply below_drew1) | exact HB.out)⟩⟩
            · rw [if_neg c26] at H
              have c26b0 : decide (60 < (wrap64 (3 * (wrap64 (9 + (Int.tmod (wrap64 (Int.tmod a0 64)) 12)))))) = false := decide_eq_false c26
              clear c26
              have H' := Aside0.mk H
              clear H
              go_wp2
              go_meet
              case rel => exact ⟨_, (false), (by first | rfl | (simp; done) | (simp [*]; done)), H', ⟨by first | omega | exact Nat.le_refl _⟩, ⟨by (with_reducible repeat (first | apply Kd.R_alloc | apply Kd.R_drewN | apply Kd.R_drew)); exact Kd.R_mono HO216.out (fun _ hk => trivial)⟩, ⟨by repeat (first | (with_reducible first | exact HB.out | apply below_alloc | apply pw_below_drewN | apply below_drew1) | exact HB.out)⟩⟩
        · rw [if_neg c22] at H
          have c22b0 : (t228 == 4) = false := beq_eq_false_iff_ne.mpr c22
          have c22b1 : (t228 != 4) = true := bne_iff_ne.mpr c22
          (first | rw [c22b0] | (simp only [i64_w, i32_w]; rw [c22b0]) | skip)
          have H' := Aside0.mk H
          clear H
          go_wp2
          go_meet
          case rel => exact ⟨_, (true), (by first | rfl | (simp; done) | (simp [*]; done)), H', ⟨by first | omega | exact Nat.le_refl _⟩, ⟨by (with_reducible repeat (first | apply Kd.R_alloc | apply Kd.R_drewN | apply Kd.R_drew)); exact Kd.R_mono HO216.out (fun _ hk => trivial)⟩, ⟨by repeat (first | (with_reducible first | exact HB.out | apply below_alloc | apply pw_below_drewN | apply below_drew1) | exact HB.out)⟩⟩
      case rest =>
        clear HC8
        try clear c1
        try clear c2
        try clear p2
        try clear c3
        try clear c6
        try clear c6b0
        try clear c6b1
        try clear p6
        try clear c11
        try clear c17
        try clear c22
        try clear c22b0
        try clear c22b1
        try clear c23
        try clear c23b0
        try clear c24
        try clear c24b0
        try clear c24b1
        try clear c25
        try clear c25b0
        try clear c26
        try clear c26b0
        obtain ⟨kq, x59_7, rfl, HA, HJ7, HO_4, HB⟩ := hcut
        cases kq with
        | zero => exact absurd HA.out (by simp [schismalaw34_WordMany.j0])
        | succ kj7 =>
          have H := HA.out
          clear HA
          simp only [schismalaw34_WordMany.j0] at H
          by_cases c27 : x59_7 = true
          · subst c27
            have H1 : (some false) = some r := by rw [if_pos rfl] at H; exact H
            clear H
            have H := H1
            clear H1
            obtain rfl := Option.some.inj H
            go_wp2
            go_ret
            exact ⟨by first | rfl | (simp [errW_none, errW_some] <;> rfl) | (simp [*, errW_none, errW_some] <;> rfl), by repeat (first | (with_reducible first | exact HB.out | apply below_alloc | apply pw_below_drewN | apply below_drew1) | exact HB.out)⟩
          · replace c27 := Bool.eq_false_iff.mpr c27
            subst c27
            have H1 : (if (wrap64 (Int.tmod a0 64)) > 59 then (if (t213.length : Int) = 0 then (some (t214 == 16)) else (some false)) else (schismalaw34_WordMany.l0 kj7 (wrap64 (Int.tmod a0 64)) t213 t214 (⟨#[]⟩ : ByteArray) 0)) = some r := by rw [if_neg (show ¬ (false = true) by decide)] at H; exact H
            clear H
            have H := H1
            clear H1
            by_cases c28 : (wrap64 (Int.tmod a0 64)) > 59
            · rw [if_pos c28] at H
              have c28b0 : decide (59 < (wrap64 (Int.tmod a0 64))) = true := decide_eq_true c28
              clear c28
              by_cases c29 : (t213.length : Int) = 0
              · rw [if_pos c29] at H
                have c29b0 : ((t213.length : Int) == 0) = true := beq_iff_eq.mpr c29
                have c29b1 : ((t213.length : Int) != 0) = false := bne_eq_false_iff_eq.mpr c29
                clear c29
                obtain rfl := Option.some.inj H
                obtain ⟨Ao30, co30, eo30⟩ := Kd.R_slice HO_4.out
                subst eo30
                go_wp2
                go_ret
                exact ⟨by first | rfl | (simp [errW_none, errW_some] <;> rfl) | (simp [*, errW_none, errW_some] <;> rfl), by repeat (first | (with_reducible first | exact HB.out | apply below_alloc | apply pw_below_drewN | apply below_drew1) | exact HB.out)⟩
              · rw [if_neg c29] at H
                have c29b0 : ((t213.length : Int) == 0) = false := beq_eq_false_iff_ne.mpr c29
                have c29b1 : ((t213.length : Int) != 0) = true := bne_iff_ne.mpr c29
                have c29b2 : ¬ (t213 = []) := fun h_ => c29 (by rw [h_]; rfl)
                obtain rfl := Option.some.inj H
                obtain ⟨Ao31, co31, eo31⟩ := Kd.R_slice HO_4.out
                subst eo31
                go_wp2
                go_ret
                exact ⟨by first | rfl | (simp [errW_none, errW_some] <;> rfl) | (simp [*, errW_none, errW_some] <;> rfl), by repeat (first | (with_reducible first | exact HB.out | apply below_alloc | apply pw_below_drewN | apply below_drew1) | exact HB.out)⟩
            · rw [if_neg c28] at H
              have c28b0 : decide (59 < (wrap64 (Int.tmod a0 64))) = false := decide_eq_false c28
              clear c28
              have H' := Aside0.mk H
              clear H
              go_wp2
              go_loopg [11, 12] kj7 (fun kq v11 v12 w' => ∃ (x11_2 : ByteArray) (x12_2 : Int), v11 = .string x11_2 ∧ v12 = .int .i64 x12_2 ∧ Aside0 (schismalaw34_WordMany.l0 kq (wrap64 (Int.tmod a0 64)) t213 t214 x11_2 x12_2 = some r) ∧ Aside0 (kq ≤ kj7) ∧ Aside0 (Kd.R Kd.string 9 w' w.heap.size (fun _ => True) v215 t213) ∧ Aside0 (Below w.heap.size w w'))
              case atStart => exact ⟨((⟨#[]⟩ : ByteArray)), (0), (by first | rfl | (simp; done) | (simp [*]; done)), (by first | rfl | (simp; done) | (simp [*]; done)), H', ⟨Nat.le_refl _⟩, ⟨by (with_reducible repeat (first | apply Kd.R_alloc | apply Kd.R_drewN | apply Kd.R_drew)); exact HO_4.out⟩, ⟨by repeat (first | (with_reducible first | exact HB.out | apply below_alloc | apply pw_below_drewN | apply below_drew1) | exact HB.out)⟩⟩
              case round =>
                clear H'
                try clear c1
                try clear c2
                try clear p2
                try clear c3
                try clear c6
                try clear c6b0
                try clear c6b1
                try clear p6
                try clear c11
                try clear c17
                try clear c22
                try clear c22b0
                try clear c22b1
                try clear c23
                try clear c23b0
                try clear c24
                try clear c24b0
                try clear c24b1
                try clear c25
                try clear c25b0
                try clear c26
                try clear c26b0
                try clear c27
                try clear c28
                try clear c28b0
                try clear c29
                try clear c29b0
                try clear c29b1
                try clear c29b2
                try clear p2
                try clear p6
                obtain ⟨x11_2, x12_2, rfl, rfl, HA, HK2, HO_4, HB⟩ := hrel
                cases gk with
                | zero => exact absurd HA.out (by simp [schismalaw34_WordMany.l0])
                | succ k2 =>
                  have H := HA.out
                  clear HA
                  simp only [schismalaw34_WordMany.l0] at H
                  by_cases c32 : x12_2 < (wrap64 (Int.tmod a0 64))
                  · rw [if_pos c32] at H
                    have c32b0 : decide (x12_2 < (wrap64 (Int.tmod a0 64))) = true := decide_eq_true c32
                    clear c32
                    by_cases c33 : x11_2.size + 1 ≤ 9223372036854775807
                    · rw [if_pos c33] at H
                      have c33b0 := eq_true c33
                      have c33b1 : decide (x11_2.size + 1 ≤ 9223372036854775807) = true := decide_eq_true c33
                      try have c33b2 : (9223372036854775807 < x11_2.size + 1) = False := eq_false (Nat.not_lt.2 c33)
                      have H' := Aside0.mk H
                      clear H
                      go_wp2
                      go_roundg k2
                      case measure => have := HJ7.out; have := HK2.out; omega
                      case rel => exact ⟨(x11_2 ++ (⟨#[97]⟩ : ByteArray)), (wrap64 (x12_2 + 1)), (by first | rfl | (simp; done) | (simp [*]; done)), (by first | rfl | (simp; done) | (simp [*]; done)), H', ⟨by have := HJ7.out; have := HK2.out; omega⟩, ⟨by (with_reducible repeat (first | apply Kd.R_alloc | apply Kd.R_drewN | apply Kd.R_drew)); exact HO_4.out⟩, ⟨by repeat (first | (with_reducible first | exact HB.out | apply below_alloc | apply pw_below_drewN | apply below_drew1) | exact HB.out)⟩⟩
                    · rw [if_neg c33] at H
                      exact absurd H (by simp)
                  · rw [if_neg c32] at H
                    have c32b0 : decide (x12_2 < (wrap64 (Int.tmod a0 64))) = false := decide_eq_false c32
                    clear c32
                    by_cases c34 : t214 = 0
                    · rw [if_pos c34] at H
                      have c34b0 : (t214 == 0) = true := beq_iff_eq.mpr c34
                      have c34b1 : (t214 != 0) = false := bne_eq_false_iff_eq.mpr c34
                      clear c34
                      by_cases c35 : x11_2.size + 1 ≤ 9223372036854775807
                      · rw [if_pos c35] at H
                        have c35b0 := eq_true c35
                        have c35b1 : decide (x11_2.size + 1 ≤ 9223372036854775807) = true := decide_eq_true c35
                        try have c35b2 : (9223372036854775807 < x11_2.size + 1) = False := eq_false (Nat.not_lt.2 c35)
                        obtain ⟨y231, hy231⟩ : ∃ y_ : List ByteArray, y_ = (([x11_2 ++ (⟨#[98]⟩ : ByteArray)] : List ByteArray)) := ⟨_, rfl⟩
                        replace H : ((schismalaw34_same.f k2 t213 y231).bind fun t234 => (some t234)) = some r := by first | (rw [hy231]; with_reducible exact H) | (have H2_ := (Option.bind_some _ _).symm.trans H; rw [hy231]; with_reducible exact H2_) | (have H2_ := (Option.bind_some _ _).symm.trans H; with_reducible exact H2_) | with_reducible exact H | (rw [hy231]; exact H) | exact H
                        have Ny231 := Aside0.mk hy231
                        clear hy231
                        replace H := Option.bind_eq_some_iff.mp H
                        obtain ⟨t234, A360, H⟩ := H
                        replace H : (some t234) = some r := H
                        have A36 := Aside0.mk A360
                        clear A360
                        obtain rfl := Option.some.inj H
                        go_wp2_with (first | ((with_reducible refine gate_dst (N := 82) rfl ?_); (try (refine gate_guard (by rfl) ?_; dsimp only)); refine Kd.R_lit Kd.string _ 9 ?hg (N := 82) ?hd (xs := ([x11_2 ++ (⟨#[98]⟩ : ByteArray)] : List ByteArray)) (inner := [.string (x11_2 ++ (⟨#[98]⟩ : ByteArray))]) (ok := fun _ => True) (okp := fun _ => True) ?hr ?hp (fun _ hk => hk) trivial (Below.refl _ _) (Nat.le_refl _) (by simp) ?_; (case hd => rfl); (case hg => rfl); (case hr => first | (go_simp; done) | (go_simp; rfl)); (case hp => exact (Reps.one (show Kd.M Kd.string _ _ _ (x11_2 ++ (⟨#[98]⟩ : ByteArray)) [.string (x11_2 ++ (⟨#[98]⟩ : ByteArray))] from rfl) (Reps.none _ _))); intro v232 w37 ho38 hb hg_ hnew_; clear hg_ hnew_; (first | rw [← Ny231.out] at ho38 | (simp only [Int.reduceToNat] at ho38; rw [← Ny231.out] at ho38)); have n0_ := Aside0.mk (Kd.R_elder' (by (with_reducible repeat (first | apply Kd.R_alloc | apply Kd.R_drewN | apply Kd.R_drew)); exact HO_4.out) (Kd.R_base ho38) hb); have n1_ := Aside0.mk (Kd.R_lower (Kd.R_new' ho38 (Kd.R_lt (by (with_reducible repeat (first | apply Kd.R_alloc | apply Kd.R_drewN | apply Kd.R_drew)); exact HO_4.out))) (below_size (by repeat (first | (with_reducible first | exact HB.out | apply below_alloc | apply pw_below_drewN | apply below_drew1) | exact HB.out)))); have n2_ := Aside0.mk (below_step (by repeat (first | (with_reducible first | exact HB.out | apply below_alloc | apply pw_below_drewN | apply below_drew1) | exact HB.out)) hb); clear HO_4; clear HB; have HO_4 := n0_; have HO233 := n1_; have HB := n2_; clear n0_ n1_ n2_; clear hb ho38; obtain ⟨Ao39, co39, eo39⟩ := Kd.R_slice HO_4.out; subst eo39; obtain ⟨Ao40, co40, eo40⟩ := Kd.R_slice HO233.out; subst eo40) | (go_at_call 18; (with_reducible refine (schismalaw34_same.calls k2 _ _ t213 _ _ y231 t234 _ ?side1 ?side2 ?side3 ?side4 A36.out).mono ?_); (case side1 => repeat (first | exact (Kd.R_reads' HO_4.out).2.2 | (with_reducible refine Kd.C_alloc ?_ _) | (with_reducible refine Kd.C_drewN ?_ _) | (with_reducible refine Kd.C_drew ?_))); (case side2 => exact (Kd.R_reads' HO_4.out).2.1); (case side3 => repeat (first | exact (Kd.R_reads' HO233.out).2.2 | (with_reducible refine Kd.C_alloc ?_ _) | (with_reducible refine Kd.C_drewN ?_ _) | (with_reducible refine Kd.C_drew ?_))); (case side4 => exact (Kd.R_reads' HO233.out).2.1); rintro e w' ⟨rfl, ⟨nd, rfl⟩⟩))
                        go_ret
                        exact ⟨by first | rfl | (simp [errW_none, errW_some] <;> rfl) | (simp [*, errW_none, errW_some] <;> rfl), by repeat (first | (with_reducible first | exact HB.out | apply below_alloc | apply pw_below_drewN | apply below_drew1) | exact HB.out)⟩
                      · rw [if_neg c35] at H
                        exact absurd H (by simp)
                    · rw [if_neg c34] at H
                      have c34b0 : (t214 == 0) = false := beq_eq_false_iff_ne.mpr c34
                      have c34b1 : (t214 != 0) = true := bne_iff_ne.mpr c34
                      obtain rfl := Option.some.inj H
                      go_wp2
                      go_ret
                      exact ⟨by first | rfl | (simp [errW_none, errW_some] <;> rfl) | (simp [*, errW_none, errW_some] <;> rfl), by repeat (first | (with_reducible first | exact HB.out | apply below_alloc | apply pw_below_drewN | apply below_drew1) | exact HB.out)⟩
    · rw [if_neg c6] at H
      exact absurd H (by simp)
  · replace c3 := Bool.eq_false_iff.mpr c3
    subst c3
    have H1 : (some false) = some r := by rw [if_neg (show ¬ (false = true) by decide)] at H; exact H
    clear H
    have H := H1
    clear H1
    obtain rfl := Option.some.inj H
    go_enter Try.func6, Try.ntmps6
    go_wp2_with (first | ((with_reducible refine gate_callee (f := 11) rfl ?_); refine goesL_ (some 13) rfl rfl Try.func11 (by kernel_rfl) rfl #[] rfl (by (try simp only [List.map_toArray, List.map_cons, List.map_nil]); first | done | rfl | (simp only [List.length_drop, List.length_take]; rfl)) ?_; (with_reducible refine (schismalaw34_known.calls k  false _ A2.out).mono ?_); rintro e w41 ⟨rfl, hb⟩; refine ⟨_, rfl, ?_⟩; have n0_ := Aside0.mk (below_step (by repeat (first | (with_reducible first | exact HB.out | apply below_alloc | apply pw_below_drewN | apply below_drew1) | exact HB.out)) hb); clear HB; have HB := n0_; clear n0_; (try clear hb); (try clear hb2); (try clear hk); (try clear hi)))
    go_ret
    exact ⟨by first | rfl | (simp [errW_none, errW_some] <;> rfl) | (simp [*, errW_none, errW_some] <;> rfl), by repeat (first | (with_reducible first | exact HB.out | apply below_alloc | apply pw_below_drewN | apply below_drew1) | exact HB.out)⟩

/-- THE ONE PURE STATEMENT of schismalaw34_WordMany: yours. -/
def schismalaw34_WordMany.Pure : Prop := ∀ (a0 : Int), (Lit.int .u8 a0).wf = true → ∃ k, schismalaw34_WordMany.f k a0 = some true
theorem schismalaw34_WordMany.walk (P : schismalaw34_WordMany.Pure) (a0 : Int) (w : World) (w0 : (Lit.int .u8 a0).wf = true) :
    Calls Try.prog 6 #[.int .u8 a0] w fun e w' => e = .returned (.bool true) ∧ Below w.heap.size w w' := by
  obtain ⟨k, h⟩ := P a0 w0
  refine (schismalaw34_WordMany.calls k a0 true w h).mono ?_
  rintro e w' ⟨rfl, hd⟩
  exact ⟨rfl, hd⟩

end Go.Proofs.Ytpommkpgiogjgaa.X
