/- word.Same returns the first place at which the rotation of one word is the other one, or the first error: for all words whose checks tell an answer. -/
import Derived.Test.YtpommkpgiogjgaaX2
namespace Go.Proofs.Ytpommkpgiogjgaa.X
open Go.RowKit Go.Proofs.YtpommkpgiogjgaaW.PrintWords Go.Proofs.YtpommkpgiogjgaaW.PrintLast Go.Proofs.YtpommkpgiogjgaaW.PrintMore
set_option linter.unusedVariables false
set_option linter.unusedSimpArgs false

def word_Same.l0 : Nat → ByteArray → ByteArray → Int → Option (Int × Bool × Int)
  | 0, _, _, _ => none
  | k + 1, x0, x1, x => if x < (x0.size : Int) then ((word_rotate.f x0 x).bind fun t => (if t.toList = x1.toList then (some (x, true, 0)) else (word_Same.l0 k x0 x1 (wrap64 (x + 1))))) else (some (0, false, 0))
def word_Same.f (k : Nat) (a0 : ByteArray) (a1 : ByteArray) : Option (Int × Bool × Int) :=
  (word_Check.f k a0).bind fun t0 => (if t0 = 0 then ((word_Check.f k a1).bind fun t1 => (if t1 = 0 then (word_Same.l0 k a0 a1 0) else (some (0, false, t1)))) else (some (0, false, t0)))
theorem word_Same.mono_l : ∀ k, (∀ y0 y1 y2, LeO (word_Same.l0 k y0 y1 y2) (word_Same.l0 (k + 1) y0 y1 y2))
  | 0 => fun _ _ _ r h => by simp [word_Same.l0] at h
  | k + 1 => by
    have ih0 := word_Same.mono_l k
    intro y0 y1 y2
    unfold word_Same.l0
    repeat' first
      | (with_reducible exact ih0 _ _ _)
      | (with_reducible exact LeO.refl _)
      | (with_reducible refine LeO.ite ?_ ?_)
      | (with_reducible refine LeO.bind ?_ (fun _ => ?_))
theorem word_Same.mono : ∀ a0 a1 k, LeO (word_Same.f k a0 a1) (word_Same.f (k + 1) a0 a1) := by
  intro a0 a1 k
  have ih0 := word_Same.mono_l k
  unfold word_Same.f
  repeat' first
      | (with_reducible exact ih0 _ _ _)
      | (with_reducible exact word_Check.mono _ _)
      | (with_reducible exact LeO.refl _)
      | (with_reducible refine LeO.ite ?_ ?_)
      | (with_reducible refine LeO.bind ?_ (fun _ => ?_))
set_option maxHeartbeats 4000000 in
set_option maxRecDepth 100000 in
theorem word_Same.calls (k : Nat) (a0 : ByteArray) (a1 : ByteArray) (r1 : Int) (r2 : Bool) (r3 : Int) (w : World) (h : word_Same.f k a0 a1 = some (r1, r2, r3)) :
    Calls Try.prog 21 #[.string a0, .string a1] w fun e w' => e = .returned (.tuple #[.int .i64 r1, .bool r2, .int .i64 r3]) ∧ Drawn0 w w' := by
  have H : ((word_Check.f k a0).bind fun t0 => (if t0 = 0 then ((word_Check.f k a1).bind fun t1 => (if t1 = 0 then (word_Same.l0 k a0 a1 0) else (some (0, false, t1)))) else (some (0, false, t0)))) = some (r1, r2, r3) := h
  clear h
  replace H := Option.bind_eq_some_iff.mp H
  obtain ⟨t0, A00, H⟩ := H
  have A0 := Aside0.mk A00
  clear A00
  have i0 : ∀ w, (Instr.index 85 (.agg #[.string a0, .string a1]) (.int .i64 0)).run Try.prog w = .ok (.string a0) w := fun _ => by rfl
  have i1 : ∀ w, (Instr.index 85 (.agg #[.string a0, .string a1]) (.int .i64 1)).run Try.prog w = .ok (.string a1) w := fun _ => by rfl
  by_cases c0 : t0 = 0
  · rw [if_pos c0] at H
    have c0b0 : (t0 == 0) = true := beq_iff_eq.mpr c0
    have c0b1 : (t0 != 0) = false := bne_eq_false_iff_eq.mpr c0
    clear c0
    replace H := Option.bind_eq_some_iff.mp H
    obtain ⟨t1, A10, H⟩ := H
    have A1 := Aside0.mk A10
    clear A10
    have H' := Aside0.mk H
    clear H
    go_enter Try.func21, Try.ntmps21
    go_wp2
    have hC : ∀ W, Calls Try.prog 31 #[.string a0] W fun e w' => e = .returned (.int .i64 0) ∧ Drawn0 W w' := fun W => by
      have z := word_Check.calls k a0 t0 W A0.out
      rwa [show t0 = 0 from by simpa using c0b0] at z
    have HC := Aside0.mk hC
    clear hC
    go_loopw [14] (fun v w' => (v = .int .i64 0 ∨ v = .int .i64 1 ∨ (v = .int .i64 2 ∧ Aside0 (t1 = 0))) ∧ Drawn0 w w') (fun v _ => (2 - intOf v).toNat)
    case atStart => exact ⟨.inl rfl, Drawn0.refl _⟩
    case round =>
      obtain ⟨hv, ⟨m1, rfl⟩⟩ := hrel
      rcases hv with rfl | rfl | ⟨rfl, hq2⟩
      · go_wp2_with (go_at_call 31; (with_reducible refine (HC.out _).mono ?_); rintro e w' ⟨rfl, ⟨nd, rfl⟩⟩)
        go_roundw
        case rel => exact ⟨.inr (.inl rfl), by repeat (first | exact Drawn0.refl _ | apply Drawn0.step)⟩
        case measure => simp [intOf]
      · by_cases c1 : t1 = 0
        · have c1b0 : (t1 == 0) = true := beq_iff_eq.mpr c1
          have c1b1 : (t1 != 0) = false := bne_eq_false_iff_eq.mpr c1
          have C1 := Aside0.mk c1
          clear c1
          go_wp2_with (go_at_call 31; (with_reducible refine (word_Check.calls k a1 t1 _ A1.out).mono ?_); rintro e w' ⟨rfl, ⟨nd, rfl⟩⟩)
          go_roundw
          case rel => exact ⟨.inr (.inr ⟨rfl, C1⟩), by repeat (first | exact Drawn0.refl _ | apply Drawn0.step)⟩
          case measure => simp [intOf]
        · have c1b0 : (t1 == 0) = false := beq_eq_false_iff_ne.mpr c1
          have c1b1 : (t1 != 0) = true := bne_iff_ne.mpr c1
          have H2 := H'.out
          rw [if_neg c1] at H2
          simp only [Option.some.injEq, Prod.mk.injEq] at H2
          obtain ⟨rfl, rfl, rfl⟩ := H2
          clear c1
          go_wp2_with (go_at_call 31; (with_reducible refine (word_Check.calls k a1 t1 _ A1.out).mono ?_); rintro e w' ⟨rfl, ⟨nd, rfl⟩⟩)
          go_ret3
          exact ⟨rfl, by repeat (first | exact Drawn0.refl _ | apply Drawn0.step)⟩
      · have H2 := H'.out
        rw [if_pos hq2.out] at H2
        have H3 := Aside0.mk H2
        clear H2 H'
        go_wp2
        go_loopg [25] k (fun kq v w' => ∃ (x : Int), v = .int .i64 x ∧ Aside0 (word_Same.l0 kq a0 a1 x = some (r1, r2, r3)) ∧ Aside0 (kq ≤ k) ∧ Drawn0 w w')
        case atStart => exact ⟨0, rfl, H3, ⟨Nat.le_refl _⟩, by repeat (first | exact Drawn0.refl _ | apply Drawn0.step)⟩
        case round =>
          clear H3
          obtain ⟨x, rfl, HA, HK1, ⟨m2, rfl⟩⟩ := hrel
          cases gk with
          | zero => exact absurd HA.out (by simp [word_Same.l0])
          | succ k1 =>
            have H := HA.out
            clear HA
            simp only [word_Same.l0] at H
            by_cases c4 : x < (a0.size : Int)
            · rw [if_pos c4] at H
              have c4b0 : decide (x < (a0.size : Int)) = true := decide_eq_true c4
              clear c4
              replace H := Option.bind_eq_some_iff.mp H
              obtain ⟨t, A70, H⟩ := H
              have A7 := Aside0.mk A70
              clear A70
              by_cases c8 : t.toList = a1.toList
              · rw [if_pos c8] at H
                have c8b0 : (t.toList == a1.toList) = true := beq_iff_eq.mpr c8
                clear c8
                simp only [Option.some.injEq, Prod.mk.injEq] at H
                obtain ⟨rfl, rfl, rfl⟩ := H
                go_wp2_with (go_at_call 40; (with_reducible refine (word_rotate.calls a0 x t _ A7.out).mono ?_); rintro e w' ⟨rfl, ⟨nd, rfl⟩⟩)
                go_ret3
                exact ⟨rfl, by repeat (first | exact Drawn0.refl _ | apply Drawn0.step)⟩
              · rw [if_neg c8] at H
                have c8b0 : (t.toList == a1.toList) = false := beq_eq_false_iff_ne.mpr c8
                clear c8
                have H' := Aside0.mk H
                clear H
                go_wp2_with (go_at_call 40; (with_reducible refine (word_rotate.calls a0 x t _ A7.out).mono ?_); rintro e w' ⟨rfl, ⟨nd, rfl⟩⟩)
                go_roundg k1
                case measure => have := HK1.out; omega
                case rel => exact ⟨(wrap64 (x + 1)), (by first | rfl | (simp; done) | (simp [*]; done)), H', ⟨by have := HK1.out; omega⟩, by repeat (first | exact Drawn0.refl _ | apply Drawn0.step)⟩
            · rw [if_neg c4] at H
              have c4b0 : decide (x < (a0.size : Int)) = false := decide_eq_false c4
              clear c4
              simp only [Option.some.injEq, Prod.mk.injEq] at H
              obtain ⟨rfl, rfl, rfl⟩ := H
              go_wp2
              go_ret3
              exact ⟨rfl, by repeat (first | exact Drawn0.refl _ | apply Drawn0.step)⟩
  · rw [if_neg c0] at H
    have c0b0 : (t0 == 0) = false := beq_eq_false_iff_ne.mpr c0
    have c0b1 : (t0 != 0) = true := bne_iff_ne.mpr c0
    clear c0
    simp only [Option.some.injEq, Prod.mk.injEq] at H
    obtain ⟨rfl, rfl, rfl⟩ := H
    go_enter Try.func21, Try.ntmps21
    go_wp2
    go_loopw [14] (fun v w' => v = .int .i64 0 ∧ Drawn0 w w') (fun v _ => (2 - intOf v).toNat)
    case atStart => exact ⟨rfl, Drawn0.refl _⟩
    case round =>
      obtain ⟨rfl, ⟨m1, rfl⟩⟩ := hrel
      go_wp2_with (go_at_call 31; (with_reducible refine (word_Check.calls k a0 t0 _ A0.out).mono ?_); rintro e w' ⟨rfl, ⟨nd, rfl⟩⟩)
      go_ret3
      exact ⟨rfl, by repeat (first | exact Drawn0.refl _ | apply Drawn0.step)⟩
end Go.Proofs.Ytpommkpgiogjgaa.X
