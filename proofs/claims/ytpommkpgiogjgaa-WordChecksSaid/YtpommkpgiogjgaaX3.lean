-- Printed by a program of this session's (the kit's print, told of functions proved by hand). Not trusted: Lean checks it.
import Derived.Test.YtpommkpgiogjgaaX0
import Derived.Test.YtpommkpgiogjgaaX2
namespace Go.Proofs.Ytpommkpgiogjgaa.X
open Go.RowKit Go.Proofs.YtpommkpgiogjgaaW.PrintWords Go.Proofs.YtpommkpgiogjgaaW.PrintLast Go.Proofs.YtpommkpgiogjgaaW.PrintMore
attribute [local go_sem] max2_int min2_int max_two min_two max_three min_three max_four min_four   -- for this text's walks alone
set_option linter.unusedVariables false
set_option linter.unusedSimpArgs false

/-! ### schismalaw34_counts: function 28 -/
mutual
def schismalaw34_counts.l0 : Nat → ByteArray → List Int → Int → Option (List Int)
  | 0, _, _, _ => none
  | k + 1, x0, x3, x4 => if x4 < (x0.size : Int) then (schismalaw34_counts.l1 k x0 x3 x4) else (some x3)
def schismalaw34_counts.l1 : Nat → ByteArray → List Int → Int → Option (List Int)
  | 0, _, _, _ => none
  | k + 1, x0, x3, x4 => if 0 ≤ x4 then (if x4 < (x0.size : Int) then (if (x3.length : Int) ≤ (((bt x0 x4) - 97) % 256) then (if x3.length < 17592186044416 then (schismalaw34_counts.l1 k x0 (x3 ++ [0]) x4) else (none)) else (if 0 ≤ (((bt x0 x4) - 97) % 256) then (if (((bt x0 x4) - 97) % 256) < (x3.length : Int) then (schismalaw34_counts.l0 k x0 (x3.set ((((bt x0 x4) - 97) % 256) : Int).toNat (wrap64 ((rd x3 (((bt x0 x4) - 97) % 256)) + 1))) (wrap64 (x4 + 1))) else (none)) else (none))) else (none)) else (none)
end
def schismalaw34_counts.f (k : Nat) (a0 : ByteArray) : Option (List Int) := schismalaw34_counts.l0 k a0 ([] : List Int) 0
theorem schismalaw34_counts.mono_l : ∀ k, (∀ y0 y1 y2, LeO (schismalaw34_counts.l0 k y0 y1 y2) (schismalaw34_counts.l0 (k + 1) y0 y1 y2)) ∧ (∀ y0 y1 y2, LeO (schismalaw34_counts.l1 k y0 y1 y2) (schismalaw34_counts.l1 (k + 1) y0 y1 y2))
  | 0 => ⟨fun _ _ _ r h => by simp [schismalaw34_counts.l0] at h, fun _ _ _ r h => by simp [schismalaw34_counts.l1] at h⟩
  | k + 1 => by
    obtain ⟨ih0, ih1⟩ := schismalaw34_counts.mono_l k
    refine ⟨?_, ?_⟩
    · intro y0 y1 y2
      unfold schismalaw34_counts.l0
      repeat' first
      | (with_reducible exact ih0 _ _ _)
      | (with_reducible exact ih1 _ _ _)
      | (with_reducible exact LeO.refl _)
      | (with_reducible exact LeO.none _)
      | (with_reducible refine LeO.ite ?_ ?_)
      | (with_reducible refine LeO.bind ?_ (fun _ => ?_))
      | exact ih0 _ _ _
      | exact ih1 _ _ _
      | exact LeO.none _
      | refine LeO.ite ?_ ?_
      | refine LeO.bind ?_ (fun _ => ?_)
    · intro y0 y1 y2
      unfold schismalaw34_counts.l1
      repeat' first
      | (with_reducible exact ih0 _ _ _)
      | (with_reducible exact ih1 _ _ _)
      | (with_reducible exact LeO.refl _)
      | (with_reducible exact LeO.none _)
      | (with_reducible refine LeO.ite ?_ ?_)
      | (with_reducible refine LeO.bind ?_ (fun _ => ?_))
      | exact ih0 _ _ _
      | exact ih1 _ _ _
      | exact LeO.none _
      | refine LeO.ite ?_ ?_
      | refine LeO.bind ?_ (fun _ => ?_)
theorem schismalaw34_counts.mono : ∀ a0 k, LeO (schismalaw34_counts.f k a0) (schismalaw34_counts.f (k + 1) a0) := by
  intro a0 k
  obtain ⟨ih0, ih1⟩ := schismalaw34_counts.mono_l k
  unfold schismalaw34_counts.f
  repeat' first
      | (with_reducible exact ih0 _ _ _)
      | (with_reducible exact ih1 _ _ _)
      | (with_reducible exact LeO.refl _)
      | (with_reducible exact LeO.none _)
      | (with_reducible refine LeO.ite ?_ ?_)
      | (with_reducible refine LeO.bind ?_ (fun _ => ?_))
      | exact ih0 _ _ _
      | exact ih1 _ _ _
      | exact LeO.none _
      | refine LeO.ite ?_ ?_
      | refine LeO.bind ?_ (fun _ => ?_)
set_option maxHeartbeats 8000000 in
set_option maxRecDepth 100000 in
theorem schismalaw34_counts.calls (k : Nat) (a0 : ByteArray) (r : List Int) (w : World) (h : schismalaw34_counts.f k a0 = some r) :
    Calls Try.prog 28 #[.string a0] w fun e w' => ∃ v0_ : Value, e = .returned (v0_) ∧ Kd.R (Kd.int .i64) 3 w' w.heap.size (fun _ => True) v0_ r ∧ Below w.heap.size w w' := by
  have HB := Aside0.mk (Below.refl w.heap.size w)
  have H : (schismalaw34_counts.l0 k a0 ([] : List Int) 0) = some r := h
  clear h
  have H' := Aside0.mk H
  clear H
  go_enter Try.func28, Try.ntmps28
  go_wp2
  go_loopg [3, 4] k (fun kq v3 v4 w' => ∃ (x3_1 : List Int) (x4_1 : Int), v4 = .int .i64 x4_1 ∧ Aside0 (schismalaw34_counts.l0 kq a0 x3_1 x4_1 = some r) ∧ Aside0 (kq ≤ k) ∧ Aside0 (Kd.R (Kd.int .i64) 3 w' w.heap.size (fun _ => True) v3 x3_1) ∧ Aside0 (Below w.heap.size w w'))
  case atStart => exact ⟨(([] : List Int)), (0), (by first | rfl | (simp; done) | (simp [*]; done)), H', ⟨Nat.le_refl _⟩, ⟨by first | exact Kd.R_nil _ _ _ _ _ | exact Kd.N_nil _ _ _ _ _ | exact Kd.V_nil _ _ _ _ _ | exact Kd.Q_nil _ _ _ _ _ | exact Kd.S_nil _ _ _ _ _⟩, ⟨by repeat (first | (with_reducible first | exact HB.out | apply below_alloc | apply pw_below_drewN | apply below_drew1) | exact HB.out)⟩⟩
  case round =>
    clear H'
    obtain ⟨x3_1, x4_1, rfl, HA, HK1, HO_3, HB⟩ := hrel
    cases gk with
    | zero => exact absurd HA.out (by simp [schismalaw34_counts.l0])
    | succ k1 =>
      have H := HA.out
      clear HA
      simp only [schismalaw34_counts.l0] at H
      by_cases c2 : x4_1 < (a0.size : Int)
      · rw [if_pos c2] at H
        have c2b0 : decide (x4_1 < (a0.size : Int)) = true := decide_eq_true c2
        clear c2
        have H' := Aside0.mk H
        clear H
        go_wp2
        go_loopg [3] k1 (fun kq v3 w' => ∃ (x3_2 : List Int), Aside0 (schismalaw34_counts.l1 kq a0 x3_2 x4_1 = some r) ∧ Aside0 (kq ≤ k1) ∧ Aside0 (Kd.R (Kd.int .i64) 3 w' w.heap.size (fun _ => True) v3 x3_2) ∧ Aside0 (Below w.heap.size w w'))
        case atStart => exact ⟨(x3_1), H', ⟨Nat.le_refl _⟩, ⟨by (with_reducible repeat (first | apply Kd.R_alloc | apply Kd.R_drewN | apply Kd.R_drew)); exact HO_3.out⟩, ⟨by repeat (first | (with_reducible first | exact HB.out | apply below_alloc | apply pw_below_drewN | apply below_drew1) | exact HB.out)⟩⟩
        case round =>
          clear H'
          try clear c2
          try clear c2b0
          try clear p2
          obtain ⟨x3_2, HA, HK2, HO_3, HB⟩ := hrel
          cases gk with
          | zero => exact absurd HA.out (by simp [schismalaw34_counts.l1])
          | succ k2 =>
            have H := HA.out
            clear HA
            simp only [schismalaw34_counts.l1] at H
            by_cases c3 : 0 ≤ x4_1
            · rw [if_pos c3] at H
              have c3b0 : decide (0 ≤ x4_1) = true := decide_eq_true c3
              clear c3
              by_cases c4 : x4_1 < (a0.size : Int)
              · rw [if_pos c4] at H
                have c4b0 : decide (x4_1 < (a0.size : Int)) = true := decide_eq_true c4
                clear c4
                by_cases c6 : (x3_2.length : Int) ≤ (((bt a0 x4_1) - 97) % 256)
                · rw [if_pos c6] at H
                  have c6b0 : decide ((x3_2.length : Int) ≤ (((bt a0 x4_1) - 97) % 256)) = true := decide_eq_true c6
                  clear c6
                  by_cases c7 : x3_2.length < 17592186044416
                  · rw [if_pos c7] at H
                    have LMc7 := Aside0.mk c7
                    clear c7
                    obtain ⟨y135, hy135⟩ : ∃ y_ : List Int, y_ = (x3_2 ++ [0]) := ⟨_, rfl⟩
                    replace H : (schismalaw34_counts.l1 k2 a0 y135 x4_1) = some r := by first | (rw [hy135]; with_reducible exact H) | (have H2_ := (Option.bind_some _ _).symm.trans H; rw [hy135]; with_reducible exact H2_) | (have H2_ := (Option.bind_some _ _).symm.trans H; with_reducible exact H2_) | with_reducible exact H | (rw [hy135]; exact H) | exact H
                    have Ny135 := Aside0.mk hy135
                    clear hy135
                    have H' := Aside0.mk H
                    clear H
                    obtain ⟨Ao8, co8, eo8⟩ := Kd.R_slice HO_3.out
                    subst eo8
                    have p5 : 0 ≤ (x4_1 : Int) := of_decide_eq_true (by first | (with_reducible assumption) | assumption)
                    have q5 : x4_1 < (a0.size : Int) := of_decide_eq_true (by first | (with_reducible assumption) | assumption)
                    have hx5 := bt_at a0 x4_1
                    replace p5 := eq_true p5
                    replace q5 := eq_true q5
                    go_wp2_with (first | ((with_reducible refine gate_builtin (b := .append) (xs := #[.tmp 19, .tmp 20]) rfl ?_); at_builtin; refine Kd.R_append (Kd.int .i64) (w0 := w) w.heap.size rfl (.tmp 19) (.tmp 20) 39 3 (.int .i64 0) 8 rfl Try.underlying39 info3 rfl (by decide) (by omega) (.slice Ao8 x3_2.length co8) x3_2 0 [.int .i64 0] (fun _ => True) (fun _ => False) rfl rfl ?aP (fun _ hk => hk.elim) ?aF ?aO ?aB ?aS ?aL ?_; (case aP => exact rfl); (case aB => exact (by repeat (first | (with_reducible first | exact HB.out | apply below_alloc | apply pw_below_drewN | apply below_drew1) | exact HB.out))); (case aF => exact (fun _ _ => trivial)); (case aO => exact (by (with_reducible repeat (first | apply Kd.R_alloc | apply Kd.R_drewN | apply Kd.R_drew)); exact HO_3.out)); (case aS => exact (below_size (by repeat (first | (with_reducible first | exact HB.out | apply below_alloc | apply pw_below_drewN | apply below_drew1) | exact HB.out)))); (case aL => have := LMc7.out; omega); intro v136 w9 ho hb hg hat; rw [← Ny135.out] at ho; have n0_ := Aside0.mk (hb); have n1_ := Aside0.mk (ho); clear HB; clear HO_3; have HB := n0_; have HO137 := n1_; clear n0_ n1_; clear ho hb hg hat))
                    go_roundg k2
                    case measure => have := HK1.out; have := HK2.out; omega
                    case rel => exact ⟨(y135), H', ⟨by have := HK1.out; have := HK2.out; omega⟩, ⟨by (with_reducible repeat (first | apply Kd.R_alloc | apply Kd.R_drewN | apply Kd.R_drew)); exact HO137.out⟩, ⟨by repeat (first | (with_reducible first | exact HB.out | apply below_alloc | apply pw_below_drewN | apply below_drew1) | exact HB.out)⟩⟩
                  · rw [if_neg c7] at H
                    exact absurd H (by simp)
                · rw [if_neg c6] at H
                  have c6b0 : decide ((x3_2.length : Int) ≤ (((bt a0 x4_1) - 97) % 256)) = false := decide_eq_false c6
                  clear c6
                  obtain ⟨ji11, hji11⟩ : ∃ j_ : Int, (((bt a0 x4_1) - 97) % 256) = j_ := ⟨_, rfl⟩
                  replace H : (if 0 ≤ (ji11) then (if (ji11) < (x3_2.length : Int) then (schismalaw34_counts.l0 k2 a0 (x3_2.set ((ji11) : Int).toNat (wrap64 ((rd x3_2 (ji11)) + 1))) (wrap64 (x4_1 + 1))) else (none)) else (none)) = some r := by first | (rw [hji11] at H; exact H) | (simp only [hji11] at H ⊢; exact H)
                  (try rw [hji11] at c6b0)
                  by_cases c12 : 0 ≤ (ji11)
                  · rw [if_pos c12] at H
                    have c12b0 : decide (0 ≤ (ji11)) = true := decide_eq_true c12
                    clear c12
                    by_cases c13 : (ji11) < (x3_2.length : Int)
                    · rw [if_pos c13] at H
                      have c13b0 : decide ((ji11) < (x3_2.length : Int)) = true := decide_eq_true c13
                      clear c13
                      obtain ⟨y139, hy139⟩ : ∃ y_ : List Int, y_ = (x3_2.set ((ji11) : Int).toNat (wrap64 ((rd x3_2 (ji11)) + 1))) := ⟨_, rfl⟩
                      replace H : (schismalaw34_counts.l0 k2 a0 y139 (wrap64 (x4_1 + 1))) = some r := by first | (rw [hy139]; with_reducible exact H) | (have H2_ := (Option.bind_some _ _).symm.trans H; rw [hy139]; with_reducible exact H2_) | (have H2_ := (Option.bind_some _ _).symm.trans H; with_reducible exact H2_) | with_reducible exact H | (rw [hy139]; exact H) | exact H
                      have Ny139 := Aside0.mk hy139
                      clear hy139
                      have H' := Aside0.mk H
                      clear H
                      obtain ⟨Ao15, co15, eo15⟩ := Kd.R_slice HO_3.out
                      subst eo15
                      have p5 : 0 ≤ (x4_1 : Int) := of_decide_eq_true (by first | (with_reducible assumption) | assumption)
                      have q5 : x4_1 < (a0.size : Int) := of_decide_eq_true (by first | (with_reducible assumption) | assumption)
                      have hx5 := bt_at a0 x4_1
                      replace p5 := eq_true p5
                      replace q5 := eq_true q5
                      have p10 : 0 ≤ (x4_1 : Int) := of_decide_eq_true (by first | (with_reducible assumption) | assumption)
                      have q10 : x4_1 < (a0.size : Int) := of_decide_eq_true (by first | (with_reducible assumption) | assumption)
                      have hx10 := bt_at a0 x4_1
                      replace p10 := eq_true p10
                      replace q10 := eq_true q10
                      have p138 : 0 ≤ ((ji11) : Int) := of_decide_eq_true (by first | (with_reducible assumption) | assumption)
                      have q138 : (ji11) < (x3_2.length : Int) := of_decide_eq_true (by first | (with_reducible assumption) | assumption)
                      obtain ⟨ad138, e138, hx138_0⟩ := Kd.at_int (Kd.R_reads' HO_3.out).2.2 (ji11) p138 q138
                      cases e138
                      replace p138 := eq_true p138
                      replace q138 := eq_true q138
                      have p14 : 0 ≤ ((ji11) : Int) := of_decide_eq_true (by first | (with_reducible assumption) | assumption)
                      have q14 : ((ji11) : Int) < ((x3_2.length : Int) : Int) := of_decide_eq_true (by first | (with_reducible assumption) | assumption)
                      obtain ⟨go14, co14, eo14, gb14, gl14, cl14, HG14⟩ := Kd.R_form HO_3.out (by omega)
                      (first | cases eo14 | (injection eo14 with ea_ en_ ec_; (first | subst ea_ | (injection ea_ with ea_; subst ea_)); subst ec_; clear en_))
                      have GB14 := Aside0.mk gb14
                      have GG14 := Aside0.mk HG14
                      clear gb14 gl14 HG14
                      (first | simp only [add_plain] at hx138_0 | skip)
                      obtain ⟨hx14_0, hf14_0⟩ := Kd.R_celln 0 HO_3.out ((ji11) : Int) p14 q14
                      replace p14 := eq_true p14
                      replace q14 := eq_true q14
                      have HP16 := Kd.R_putg HO_3.out ((ji11) : Int) (wrap64 ((rd x3_2 (ji11)) + 1))
                      go_wp2_with (first | ((with_reducible refine gate_store (t := 3) (p := 30) rfl ?_); refine store_event (t := 3) (p := 30) (v := ?vo_w17) (w1 := (wr.setCell ⟨go14, ((ji11) : Int).toNat, none⟩ (.int .i64 (wrap64 ((rd x3_2 (ji11)) + 1))))) ?hg ?ho ?hn ?hr ?_; (case ho => rfl); (case hg => rfl); (case hn => rfl); (case hr => first | (go_simp; done) | (go_simp; rfl)); intro w17 hw; have hg : wr.grownBy w17 (some go14) := (by rw [hw]; exact HP16.2); have hp_ : Kd.R (Kd.int .i64) 3 w17 w.heap.size (fun _ => True) (.slice (some ⟨go14, 0, none⟩) x3_2.length co15) y139 := (by rw [hw, Ny139.out]; exact HP16.1); clear HP16; have n0_ := Aside0.mk (hp_); have n1_ := Aside0.mk ((by rw [hw]; exact below_set (HB.out) GB14.out : Below w.heap.size w w17)); clear HO_3; clear HB; have HO_3 := n0_; have HB := n1_; clear n0_ n1_; clear hg hw hp_))
                      go_roundg k2
                      case measure => have := HK1.out; have := HK2.out; omega
                      case rel => exact ⟨(y139), (wrap64 (x4_1 + 1)), (by first | rfl | (simp; done) | (simp [*]; done)), H', ⟨by have := HK1.out; have := HK2.out; omega⟩, ⟨by (with_reducible repeat (first | apply Kd.R_alloc | apply Kd.R_drewN | apply Kd.R_drew)); exact HO_3.out⟩, ⟨by repeat (first | (with_reducible first | exact HB.out | apply below_alloc | apply pw_below_drewN | apply below_drew1) | exact HB.out)⟩⟩
                    · rw [if_neg c13] at H
                      exact absurd H (by simp)
                  · rw [if_neg c12] at H
                    exact absurd H (by simp)
              · rw [if_neg c4] at H
                exact absurd H (by simp)
            · rw [if_neg c3] at H
              exact absurd H (by simp)
      · rw [if_neg c2] at H
        have c2b0 : decide (x4_1 < (a0.size : Int)) = false := decide_eq_false c2
        clear c2
        obtain rfl := Option.some.inj H
        go_wp2
        go_ret
        exact ⟨_, by first | rfl | (simp [errW_none, errW_some] <;> rfl) | (simp [*, errW_none, errW_some] <;> rfl), by (with_reducible repeat (first | apply Kd.R_alloc | apply Kd.R_drewN | apply Kd.R_drew)); exact HO_3.out, by repeat (first | (with_reducible first | exact HB.out | apply below_alloc | apply pw_below_drewN | apply below_drew1) | exact HB.out)⟩

/-! ### schismalaw34_part: function 35 -/
def schismalaw34_part.l0 : Nat → ByteArray → Int → Int → Int → Int → Int → Option (Int)
  | 0, _, _, _, _, _, _ => none
  | k + 1, x0, x1, x2, x3, x9, x10 => if x10 < x2 then (if (x0.size : Int) = 0 then (none) else (if 0 ≤ (Int.tmod (wrap64 (x1 + x10)) (x0.size : Int)) then (if (Int.tmod (wrap64 (x1 + x10)) (x0.size : Int)) < (x0.size : Int) then (if (bt x0 (Int.tmod (wrap64 (x1 + x10)) (x0.size : Int))) = x3 then (schismalaw34_part.l0 k x0 x1 x2 x3 (wrap64 (x9 + 1)) (wrap64 (x10 + 1))) else (schismalaw34_part.l0 k x0 x1 x2 x3 x9 (wrap64 (x10 + 1)))) else (none)) else (none))) else (some x9)
def schismalaw34_part.f (k : Nat) (a0 : ByteArray) (a1 : Int) (a2 : Int) (a3 : Int) : Option (Int) := schismalaw34_part.l0 k a0 a1 a2 a3 0 0
theorem schismalaw34_part.mono_l : ∀ k, (∀ y0 y1 y2 y3 y4 y5, LeO (schismalaw34_part.l0 k y0 y1 y2 y3 y4 y5) (schismalaw34_part.l0 (k + 1) y0 y1 y2 y3 y4 y5))
  | 0 => fun _ _ _ _ _ _ r h => by simp [schismalaw34_part.l0] at h
  | k + 1 => by
    have ih0 := schismalaw34_part.mono_l k
    · intro y0 y1 y2 y3 y4 y5
      unfold schismalaw34_part.l0
      repeat' first
      | (with_reducible exact ih0 _ _ _ _ _ _)
      | (with_reducible exact LeO.refl _)
      | (with_reducible exact LeO.none _)
      | (with_reducible refine LeO.ite ?_ ?_)
      | (with_reducible refine LeO.bind ?_ (fun _ => ?_))
      | exact ih0 _ _ _ _ _ _
      | exact LeO.none _
      | refine LeO.ite ?_ ?_
      | refine LeO.bind ?_ (fun _ => ?_)
theorem schismalaw34_part.mono : ∀ a0 a1 a2 a3 k, LeO (schismalaw34_part.f k a0 a1 a2 a3) (schismalaw34_part.f (k + 1) a0 a1 a2 a3) := by
  intro a0 a1 a2 a3 k
  have ih0 := schismalaw34_part.mono_l k
  unfold schismalaw34_part.f
  repeat' first
      | (with_reducible exact ih0 _ _ _ _ _ _)
      | (with_reducible exact LeO.refl _)
      | (with_reducible exact LeO.none _)
      | (with_reducible refine LeO.ite ?_ ?_)
      | (with_reducible refine LeO.bind ?_ (fun _ => ?_))
      | exact ih0 _ _ _ _ _ _
      | exact LeO.none _
      | refine LeO.ite ?_ ?_
      | refine LeO.bind ?_ (fun _ => ?_)
set_option maxHeartbeats 8000000 in
set_option maxRecDepth 100000 in
theorem schismalaw34_part.calls (k : Nat) (a0 : ByteArray) (a1 : Int) (a2 : Int) (a3 : Int) (r : Int) (w : World) (h : schismalaw34_part.f k a0 a1 a2 a3 = some r) :
    Calls Try.prog 35 #[.string a0, .int .i64 a1, .int .i64 a2, .int .u8 a3] w fun e w' => e = .returned (.int .i64 r) ∧ Drawn0 w w' := by
  have H : (schismalaw34_part.l0 k a0 a1 a2 a3 0 0) = some r := h
  clear h
  have H' := Aside0.mk H
  clear H
  go_enter Try.func35, Try.ntmps35
  go_wp2
  go_loopg [9, 10] k (fun kq v9 v10 w' => ∃ (x9_1 : Int) (x10_1 : Int), v9 = .int .i64 x9_1 ∧ v10 = .int .i64 x10_1 ∧ Aside0 (schismalaw34_part.l0 kq a0 a1 a2 a3 x9_1 x10_1 = some r) ∧ Aside0 (kq ≤ k) ∧ Drawn0 w w')
  case atStart => exact ⟨(0), (0), (by first | rfl | (simp; done) | (simp [*]; done)), (by first | rfl | (simp; done) | (simp [*]; done)), H', ⟨Nat.le_refl _⟩, by repeat (first | exact Drawn0.refl _ | apply Drawn0.step)⟩
  case round =>
    clear H'
    try clear p2
    try clear c3
    obtain ⟨x9_1, x10_1, rfl, rfl, HA, HK1, ⟨m1, rfl⟩⟩ := hrel
    cases gk with
    | zero => exact absurd HA.out (by simp [schismalaw34_part.l0])
    | succ k1 =>
      have H := HA.out
      clear HA
      simp only [schismalaw34_part.l0] at H
      by_cases c5 : x10_1 < a2
      · rw [if_pos c5] at H
        have c5b0 : decide (x10_1 < a2) = true := decide_eq_true c5
        clear c5
        by_cases c6 : (a0.size : Int) = 0
        · rw [if_pos c6] at H
          exact absurd H (by simp)
        · rw [if_neg c6] at H
          have c6b0 : ((a0.size : Int) == 0) = false := beq_eq_false_iff_ne.mpr c6
          have c6b1 : ((a0.size : Int) != 0) = true := bne_iff_ne.mpr c6
          obtain ⟨ji7, hji7⟩ : ∃ j_ : Int, (Int.tmod (wrap64 (a1 + x10_1)) (a0.size : Int)) = j_ := ⟨_, rfl⟩
          replace H : (if 0 ≤ (ji7) then (if (ji7) < (a0.size : Int) then (if (bt a0 (ji7)) = a3 then (schismalaw34_part.l0 k1 a0 a1 a2 a3 (wrap64 (x9_1 + 1)) (wrap64 (x10_1 + 1))) else (schismalaw34_part.l0 k1 a0 a1 a2 a3 x9_1 (wrap64 (x10_1 + 1)))) else (none)) else (none)) = some r := by first | (rw [hji7] at H; exact H) | (simp only [hji7] at H ⊢; exact H)
          by_cases c8 : 0 ≤ (ji7)
          · rw [if_pos c8] at H
            have c8b0 : decide (0 ≤ (ji7)) = true := decide_eq_true c8
            clear c8
            by_cases c9 : (ji7) < (a0.size : Int)
            · rw [if_pos c9] at H
              have c9b0 : decide ((ji7) < (a0.size : Int)) = true := decide_eq_true c9
              clear c9
              by_cases c11 : (bt a0 (ji7)) = a3
              · rw [if_pos c11] at H
                have c11b0 : ((bt a0 (ji7)) == a3) = true := beq_iff_eq.mpr c11
                have c11b1 : ((bt a0 (ji7)) != a3) = false := bne_eq_false_iff_eq.mpr c11
                clear c11
                have H' := Aside0.mk H
                clear H
                have p10 : 0 ≤ ((ji7) : Int) := of_decide_eq_true (by first | (with_reducible assumption) | assumption)
                have q10 : (ji7) < (a0.size : Int) := of_decide_eq_true (by first | (with_reducible assumption) | assumption)
                have hx10 := bt_at a0 (ji7)
                replace p10 := eq_true p10
                replace q10 := eq_true q10
                go_wp2
                go_roundg k1
                case measure => have := HK1.out; omega
                case rel => exact ⟨(wrap64 (x9_1 + 1)), (wrap64 (x10_1 + 1)), (by first | rfl | (simp; done) | (simp [*]; done)), (by first | rfl | (simp; done) | (simp [*]; done)), H', ⟨by have := HK1.out; omega⟩, by repeat (first | exact Drawn0.refl _ | apply Drawn0.step)⟩
              · rw [if_neg c11] at H
                have c11b0 : ((bt a0 (ji7)) == a3) = false := beq_eq_false_iff_ne.mpr c11
                have c11b1 : ((bt a0 (ji7)) != a3) = true := bne_iff_ne.mpr c11
                have H' := Aside0.mk H
                clear H
                have p10 : 0 ≤ ((ji7) : Int) := of_decide_eq_true (by first | (with_reducible assumption) | assumption)
                have q10 : (ji7) < (a0.size : Int) := of_decide_eq_true (by first | (with_reducible assumption) | assumption)
                have hx10 := bt_at a0 (ji7)
                replace p10 := eq_true p10
                replace q10 := eq_true q10
                go_wp2
                go_roundg k1
                case measure => have := HK1.out; omega
                case rel => exact ⟨(x9_1), (wrap64 (x10_1 + 1)), (by first | rfl | (simp; done) | (simp [*]; done)), (by first | rfl | (simp; done) | (simp [*]; done)), H', ⟨by have := HK1.out; omega⟩, by repeat (first | exact Drawn0.refl _ | apply Drawn0.step)⟩
            · rw [if_neg c9] at H
              exact absurd H (by simp)
          · rw [if_neg c8] at H
            exact absurd H (by simp)
      · rw [if_neg c5] at H
        have c5b0 : decide (x10_1 < a2) = false := decide_eq_false c5
        clear c5
        obtain rfl := Option.some.inj H
        go_wp2
        go_ret
        exact ⟨by first | rfl | (simp; done) | (simp [*]; done), by repeat (first | exact Drawn0.refl _ | apply Drawn0.step)⟩

/-! ### schismalaw34_balanced: function 14 -/
mutual
def schismalaw34_balanced.l0 : Nat → ByteArray → Int → Int → Option (Int × Int × Int × ByteArray × Bool)
  | 0, _, _, _ => none
  | k + 1, x0, x4, x5 => if x5 < (x0.size : Int) then (schismalaw34_balanced.l1 k x0 x4 x5 0) else (some (0, 0, 0, (⟨#[]⟩ : ByteArray), true))
def schismalaw34_balanced.l1 : Nat → ByteArray → Int → Int → Int → Option (Int × Int × Int × ByteArray × Bool)
  | 0, _, _, _, _ => none
  | k + 1, x0, x4, x5, x6 => if x6 < (x0.size : Int) then (schismalaw34_balanced.l2 k x0 x4 x5 x6 (wrap64 (x6 + 1))) else (schismalaw34_balanced.l0 k x0 x4 (wrap64 (x5 + 1)))
def schismalaw34_balanced.l2 : Nat → ByteArray → Int → Int → Int → Int → Option (Int × Int × Int × ByteArray × Bool)
  | 0, _, _, _, _, _ => none
  | k + 1, x0, x4, x5, x6, x7 => if x7 < (x0.size : Int) then (schismalaw34_balanced.l3 k x0 x4 x5 x6 x7 0) else (schismalaw34_balanced.l1 k x0 x4 x5 (wrap64 (x6 + 1)))
def schismalaw34_balanced.l3 : Nat → ByteArray → Int → Int → Int → Int → Int → Option (Int × Int × Int × ByteArray × Bool)
  | 0, _, _, _, _, _, _ => none
  | k + 1, x0, x4, x5, x6, x7, x8 => if x8 < x4 then ((schismalaw34_part.f k x0 x6 x5 ((wrap64 (97 + x8)) % 256)).bind fun t144 => ((schismalaw34_part.f k x0 x7 x5 ((wrap64 (97 + x8)) % 256)).bind fun t145 => (if (wrap64 (t144 - t145)) > 1 then ((schismalaw34_letter.f x8).bind fun t146 => (some (x5, x6, x7, t146, false))) else (if (wrap64 (t144 - t145)) < (-1) then ((schismalaw34_letter.f x8).bind fun t147 => (some (x5, x6, x7, t147, false))) else (schismalaw34_balanced.l3 k x0 x4 x5 x6 x7 (wrap64 (x8 + 1))))))) else (schismalaw34_balanced.l2 k x0 x4 x5 x6 (wrap64 (x7 + 1)))
end
def schismalaw34_balanced.f (k : Nat) (a0 : ByteArray) : Option (Int × Int × Int × ByteArray × Bool) := (schismalaw34_counts.f k a0).bind fun t141 => (schismalaw34_balanced.l0 k a0 (t141.length : Int) 1)
theorem schismalaw34_balanced.mono_l : ∀ k, (∀ y0 y1 y2, LeO (schismalaw34_balanced.l0 k y0 y1 y2) (schismalaw34_balanced.l0 (k + 1) y0 y1 y2)) ∧ (∀ y0 y1 y2 y3, LeO (schismalaw34_balanced.l1 k y0 y1 y2 y3) (schismalaw34_balanced.l1 (k + 1) y0 y1 y2 y3)) ∧ (∀ y0 y1 y2 y3 y4, LeO (schismalaw34_balanced.l2 k y0 y1 y2 y3 y4) (schismalaw34_balanced.l2 (k + 1) y0 y1 y2 y3 y4)) ∧ (∀ y0 y1 y2 y3 y4 y5, LeO (schismalaw34_balanced.l3 k y0 y1 y2 y3 y4 y5) (schismalaw34_balanced.l3 (k + 1) y0 y1 y2 y3 y4 y5))
  | 0 => ⟨fun _ _ _ r h => by simp [schismalaw34_balanced.l0] at h, fun _ _ _ _ r h => by simp [schismalaw34_balanced.l1] at h, fun _ _ _ _ _ r h => by simp [schismalaw34_balanced.l2] at h, fun _ _ _ _ _ _ r h => by simp [schismalaw34_balanced.l3] at h⟩
  | k + 1 => by
    obtain ⟨ih0, ih1, ih2, ih3⟩ := schismalaw34_balanced.mono_l k
    refine ⟨?_, ?_, ?_, ?_⟩
    · intro y0 y1 y2
      unfold schismalaw34_balanced.l0
      repeat' first
      | (with_reducible exact ih0 _ _ _)
      | (with_reducible exact ih1 _ _ _ _)
      | (with_reducible exact ih2 _ _ _ _ _)
      | (with_reducible exact ih3 _ _ _ _ _ _)
      | (with_reducible exact schismalaw34_counts.mono _ _)
      | (with_reducible exact schismalaw34_part.mono _ _ _ _ _)
      | (with_reducible exact LeO.refl _)
      | (with_reducible exact LeO.none _)
      | (with_reducible refine LeO.ite ?_ ?_)
      | (with_reducible refine LeO.bind ?_ (fun _ => ?_))
      | exact ih0 _ _ _
      | exact ih1 _ _ _ _
      | exact ih2 _ _ _ _ _
      | exact ih3 _ _ _ _ _ _
      | exact schismalaw34_counts.mono _ _
      | exact schismalaw34_part.mono _ _ _ _ _
      | exact LeO.none _
      | refine LeO.ite ?_ ?_
      | refine LeO.bind ?_ (fun _ => ?_)
    · intro y0 y1 y2 y3
      unfold schismalaw34_balanced.l1
      repeat' first
      | (with_reducible exact ih0 _ _ _)
      | (with_reducible exact ih1 _ _ _ _)
      | (with_reducible exact ih2 _ _ _ _ _)
      | (with_reducible exact ih3 _ _ _ _ _ _)
      | (with_reducible exact schismalaw34_counts.mono _ _)
      | (with_reducible exact schismalaw34_part.mono _ _ _ _ _)
      | (with_reducible exact LeO.refl _)
      | (with_reducible exact LeO.none _)
      | (with_reducible refine LeO.ite ?_ ?_)
      | (with_reducible refine LeO.bind ?_ (fun _ => ?_))
      | exact ih0 _ _ _
      | exact ih1 _ _ _ _
      | exact ih2 _ _ _ _ _
      | exact ih3 _ _ _ _ _ _
      | exact schismalaw34_counts.mono _ _
      | exact schismalaw34_part.mono _ _ _ _ _
      | exact LeO.none _
      | refine LeO.ite ?_ ?_
      | refine LeO.bind ?_ (fun _ => ?_)
    · intro y0 y1 y2 y3 y4
      unfold schismalaw34_balanced.l2
      repeat' first
      | (with_reducible exact ih0 _ _ _)
      | (with_reducible exact ih1 _ _ _ _)
      | (with_reducible exact ih2 _ _ _ _ _)
      | (with_reducible exact ih3 _ _ _ _ _ _)
      | (with_reducible exact schismalaw34_counts.mono _ _)
      | (with_reducible exact schismalaw34_part.mono _ _ _ _ _)
      | (with_reducible exact LeO.refl _)
      | (with_reducible exact LeO.none _)
      | (with_reducible refine LeO.ite ?_ ?_)
      | (with_reducible refine LeO.bind ?_ (fun _ => ?_))
      | exact ih0 _ _ _
      | exact ih1 _ _ _ _
      | exact ih2 _ _ _ _ _
      | exact ih3 _ _ _ _ _ _
      | exact schismalaw34_counts.mono _ _
      | exact schismalaw34_part.mono _ _ _ _ _
      | exact LeO.none _
      | refine LeO.ite ?_ ?_
      | refine LeO.bind ?_ (fun _ => ?_)
    · intro y0 y1 y2 y3 y4 y5
      unfold schismalaw34_balanced.l3
      repeat' first
      | (with_reducible exact ih0 _ _ _)
      | (with_reducible exact ih1 _ _ _ _)
      | (with_reducible exact ih2 _ _ _ _ _)
      | (with_reducible exact ih3 _ _ _ _ _ _)
      | (with_reducible exact schismalaw34_counts.mono _ _)
      | (with_reducible exact schismalaw34_part.mono _ _ _ _ _)
      | (with_reducible exact LeO.refl _)
      | (with_reducible exact LeO.none _)
      | (with_reducible refine LeO.ite ?_ ?_)
      | (with_reducible refine LeO.bind ?_ (fun _ => ?_))
      | exact ih0 _ _ _
      | exact ih1 _ _ _ _
      | exact ih2 _ _ _ _ _
      | exact ih3 _ _ _ _ _ _
      | exact schismalaw34_counts.mono _ _
      | exact schismalaw34_part.mono _ _ _ _ _
      | exact LeO.none _
      | refine LeO.ite ?_ ?_
      | refine LeO.bind ?_ (fun _ => ?_)
theorem schismalaw34_balanced.mono : ∀ a0 k, LeO (schismalaw34_balanced.f k a0) (schismalaw34_balanced.f (k + 1) a0) := by
  intro a0 k
  obtain ⟨ih0, ih1, ih2, ih3⟩ := schismalaw34_balanced.mono_l k
  unfold schismalaw34_balanced.f
  repeat' first
      | (with_reducible exact ih0 _ _ _)
      | (with_reducible exact ih1 _ _ _ _)
      | (with_reducible exact ih2 _ _ _ _ _)
      | (with_reducible exact ih3 _ _ _ _ _ _)
      | (with_reducible exact schismalaw34_counts.mono _ _)
      | (with_reducible exact schismalaw34_part.mono _ _ _ _ _)
      | (with_reducible exact LeO.refl _)
      | (with_reducible exact LeO.none _)
      | (with_reducible refine LeO.ite ?_ ?_)
      | (with_reducible refine LeO.bind ?_ (fun _ => ?_))
      | exact ih0 _ _ _
      | exact ih1 _ _ _ _
      | exact ih2 _ _ _ _ _
      | exact ih3 _ _ _ _ _ _
      | exact schismalaw34_counts.mono _ _
      | exact schismalaw34_part.mono _ _ _ _ _
      | exact LeO.none _
      | refine LeO.ite ?_ ?_
      | refine LeO.bind ?_ (fun _ => ?_)
set_option maxHeartbeats 8000000 in
set_option maxRecDepth 100000 in
theorem schismalaw34_balanced.calls (k : Nat) (a0 : ByteArray) (r1 : Int) (r2 : Int) (r3 : Int) (r4 : ByteArray) (r5 : Bool) (w : World) (h : schismalaw34_balanced.f k a0 = some (r1, r2, r3, r4, r5)) :
    Calls Try.prog 14 #[.string a0] w fun e w' => e = .returned (.tuple #[.agg #[.int .i64 r1, .int .i64 r2, .int .i64 r3, .string r4], .bool r5]) ∧ Below w.heap.size w w' := by
  have hu28 := Try.underlying28
  have HB := Aside0.mk (Below.refl w.heap.size w)
  have H : ((schismalaw34_counts.f k a0).bind fun t141 => (schismalaw34_balanced.l0 k a0 (t141.length : Int) 1)) = some (r1, r2, r3, r4, r5) := h
  clear h
  replace H := Option.bind_eq_some_iff.mp H
  obtain ⟨t141, A20, H⟩ := H
  replace H : (schismalaw34_balanced.l0 k a0 (t141.length : Int) 1) = some (r1, r2, r3, r4, r5) := H
  have A2 := Aside0.mk A20
  clear A20
  have H' := Aside0.mk H
  clear H
  go_enter Try.func14, Try.ntmps14
  go_wp2_with (first | ((with_reducible refine gate_dst (N := 2) rfl ?_); refine box_event ?hg (N := 2) ?hd (cs := #[.int .i64 0, .int .i64 0, .int .i64 0, .string (⟨#[]⟩ : ByteArray)]) (t := 28) ?hr ?_; (case hd => rfl); (case hg => rfl); (case hr => first | (go_simp; done) | (go_simp; rfl)); intro gb140 hg w3 hbox hb; have n0_ := Aside0.mk (below_step (by repeat (first | (with_reducible first | exact HB.out | apply below_alloc | apply pw_below_drewN | apply below_drew1) | exact HB.out)) hb); have n1_ := Aside0.mk (hbox); have n2_ := Aside0.mk ((by rw [hg]; exact (below_size (by repeat (first | (with_reducible first | exact HB.out | apply below_alloc | apply pw_below_drewN | apply below_drew1) | exact HB.out))) : w.heap.size ≤ gb140)); have n3_ := Aside0.mk ((by rw [hg]; exact (below_size (by repeat (first | (with_reducible first | exact HB.out | apply below_alloc | apply pw_below_drewN | apply below_drew1) | exact HB.out))) : w.heap.size ≤ gb140)); clear HB; have HB := n0_; have BK140 := n1_; have GW140 := n2_; have GE140 := n3_; clear n0_ n1_ n2_ n3_; clear hb hbox hg) | ((with_reducible refine gate_callee (f := 28) rfl ?_); refine goesL_ (some 11) rfl rfl Try.func28 (by kernel_rfl) rfl #[.string a0] rfl (by (try simp only [List.map_toArray, List.map_cons, List.map_nil]); first | done | rfl | (simp only [List.length_drop, List.length_take]; rfl)) ?_; (with_reducible refine (schismalaw34_counts.calls k a0 t141 _ A2.out).mono ?_); rintro e w4 ⟨v142, rfl, ho0, hb⟩; refine ⟨_, rfl, ?_⟩; have n0_ := Aside0.mk (Kd.R_lower ho0 (below_size (by repeat (first | (with_reducible first | exact HB.out | apply below_alloc | apply pw_below_drewN | apply below_drew1 | refine below_set ?_ GE140.out) | exact HB.out)))); have n1_ := Aside0.mk (blk_below (g := gb140) (o := .cells #[.int .i64 0, .int .i64 0, .int .i64 0, .string (⟨#[]⟩ : ByteArray)] 28 (0, 0)) (by (with_reducible repeat (first | refine blk_drewN ?_ _ | refine blk_drew ?_ | refine blk_alloc ?_ _)); exact BK140.out) hb); have n2_ := Aside0.mk (below_step (by repeat (first | (with_reducible first | exact HB.out | apply below_alloc | apply pw_below_drewN | apply below_drew1 | refine below_set ?_ GE140.out) | exact HB.out)) hb); clear BK140; clear HB; have HO143 := n0_; have BK140 := n1_; have HB := n2_; clear n0_ n1_ n2_; (try clear hb); (try clear hb2); (try clear hk); (try clear hi); (try clear ho0); obtain ⟨Ao5, co5, eo5⟩ := Kd.R_slice HO143.out; subst eo5))
  go_loopg [5] k (fun kq v5 w' => ∃ (x5_1 : Int) (x141000_1 : Int) (x141001_1 : Int) (x141002_1 : Int) (x141003_1 : ByteArray), v5 = .int .i64 x5_1 ∧ Aside0 (schismalaw34_balanced.l0 kq a0 (t141.length : Int) x5_1 = some (r1, r2, r3, r4, r5)) ∧ Aside0 (kq ≤ k) ∧ Aside0 (w'.heap[gb140]? = some (.cells #[.int .i64 x141000_1, .int .i64 x141001_1, .int .i64 x141002_1, .string x141003_1] 28 (0, 0))) ∧ Aside0 (Below w.heap.size w w'))
  case atStart => exact ⟨(1), (0), (0), (0), ((⟨#[]⟩ : ByteArray)), (by first | rfl | (simp; done) | (simp [*]; done)), H', ⟨Nat.le_refl _⟩, ⟨by (with_reducible repeat (first | refine blk_drewN ?_ _ | refine blk_drew ?_ | refine blk_alloc ?_ _)); exact BK140.out⟩, ⟨by repeat (first | (with_reducible first | exact HB.out | apply below_alloc | apply pw_below_drewN | apply below_drew1 | refine below_set ?_ GE140.out) | exact HB.out)⟩⟩
  case round =>
    clear H'
    try clear c1
    try clear c2
    try clear p2
    obtain ⟨x5_1, x141000_1, x141001_1, x141002_1, x141003_1, rfl, HA, HK1, BK140, HB⟩ := hrel
    cases gk with
    | zero => exact absurd HA.out (by simp [schismalaw34_balanced.l0])
    | succ k1 =>
      have H := HA.out
      clear HA
      simp only [schismalaw34_balanced.l0] at H
      by_cases c6 : x5_1 < (a0.size : Int)
      · rw [if_pos c6] at H
        have c6b0 : decide (x5_1 < (a0.size : Int)) = true := decide_eq_true c6
        clear c6
        have H' := Aside0.mk H
        clear H
        go_wp2
        go_loopg [6] k1 (fun kq v6 w' => ∃ (x6_2 : Int) (x141000_2 : Int) (x141001_2 : Int) (x141002_2 : Int) (x141003_2 : ByteArray), v6 = .int .i64 x6_2 ∧ Aside0 (schismalaw34_balanced.l1 kq a0 (t141.length : Int) x5_1 x6_2 = some (r1, r2, r3, r4, r5)) ∧ Aside0 (kq ≤ k1) ∧ Aside0 (w'.heap[gb140]? = some (.cells #[.int .i64 x141000_2, .int .i64 x141001_2, .int .i64 x141002_2, .string x141003_2] 28 (0, 0))) ∧ Aside0 (Below w.heap.size w w'))
        case atStart => exact ⟨(0), (x141000_1), (x141001_1), (x141002_1), (x141003_1), (by first | rfl | (simp; done) | (simp [*]; done)), H', ⟨Nat.le_refl _⟩, ⟨by (with_reducible repeat (first | refine blk_drewN ?_ _ | refine blk_drew ?_ | refine blk_alloc ?_ _)); exact BK140.out⟩, ⟨by repeat (first | (with_reducible first | exact HB.out | apply below_alloc | apply pw_below_drewN | apply below_drew1 | refine below_set ?_ GE140.out) | exact HB.out)⟩⟩
        case round =>
          clear H'
          try clear c1
          try clear c2
          try clear p2
          try clear c6
          try clear c6b0
          try clear p2
          obtain ⟨x6_2, x141000_2, x141001_2, x141002_2, x141003_2, rfl, HA, HK2, BK140, HB⟩ := hrel
          cases gk with
          | zero => exact absurd HA.out (by simp [schismalaw34_balanced.l1])
          | succ k2 =>
            have H := HA.out
            clear HA
            simp only [schismalaw34_balanced.l1] at H
            by_cases c7 : x6_2 < (a0.size : Int)
            · rw [if_pos c7] at H
              have c7b0 : decide (x6_2 < (a0.size : Int)) = true := decide_eq_true c7
              clear c7
              have H' := Aside0.mk H
              clear H
              go_wp2
              go_loopg [7] k2 (fun kq v7 w' => ∃ (x7_3 : Int) (x141000_3 : Int) (x141001_3 : Int) (x141002_3 : Int) (x141003_3 : ByteArray), v7 = .int .i64 x7_3 ∧ Aside0 (schismalaw34_balanced.l2 kq a0 (t141.length : Int) x5_1 x6_2 x7_3 = some (r1, r2, r3, r4, r5)) ∧ Aside0 (kq ≤ k2) ∧ Aside0 (w'.heap[gb140]? = some (.cells #[.int .i64 x141000_3, .int .i64 x141001_3, .int .i64 x141002_3, .string x141003_3] 28 (0, 0))) ∧ Aside0 (Below w.heap.size w w'))
              case atStart => exact ⟨(wrap64 (x6_2 + 1)), (x141000_2), (x141001_2), (x141002_2), (x141003_2), (by first | rfl | (simp; done) | (simp [*]; done)), H', ⟨Nat.le_refl _⟩, ⟨by (with_reducible repeat (first | refine blk_drewN ?_ _ | refine blk_drew ?_ | refine blk_alloc ?_ _)); exact BK140.out⟩, ⟨by repeat (first | (with_reducible first | exact HB.out | apply below_alloc | apply pw_below_drewN | apply below_drew1 | refine below_set ?_ GE140.out) | exact HB.out)⟩⟩
              case round =>
                clear H'
                try clear c1
                try clear c2
                try clear p2
                try clear c6
                try clear c6b0
                try clear p6
                try clear c7
                try clear c7b0
                try clear p2
                obtain ⟨x7_3, x141000_3, x141001_3, x141002_3, x141003_3, rfl, HA, HK3, BK140, HB⟩ := hrel
                cases gk with
                | zero => exact absurd HA.out (by simp [schismalaw34_balanced.l2])
                | succ k3 =>
                  have H := HA.out
                  clear HA
                  simp only [schismalaw34_balanced.l2] at H
                  by_cases c8 : x7_3 < (a0.size : Int)
                  · rw [if_pos c8] at H
                    have c8b0 : decide (x7_3 < (a0.size : Int)) = true := decide_eq_true c8
                    clear c8
                    have H' := Aside0.mk H
                    clear H
                    go_wp2
                    go_loopg [8] k3 (fun kq v8 w' => ∃ (x8_4 : Int) (x141000_4 : Int) (x141001_4 : Int) (x141002_4 : Int) (x141003_4 : ByteArray), v8 = .int .i64 x8_4 ∧ Aside0 (schismalaw34_balanced.l3 kq a0 (t141.length : Int) x5_1 x6_2 x7_3 x8_4 = some (r1, r2, r3, r4, r5)) ∧ Aside0 (kq ≤ k3) ∧ Aside0 (w'.heap[gb140]? = some (.cells #[.int .i64 x141000_4, .int .i64 x141001_4, .int .i64 x141002_4, .string x141003_4] 28 (0, 0))) ∧ Aside0 (Below w.heap.size w w'))
                    case atStart => exact ⟨(0), (x141000_3), (x141001_3), (x141002_3), (x141003_3), (by first | rfl | (simp; done) | (simp [*]; done)), H', ⟨Nat.le_refl _⟩, ⟨by (with_reducible repeat (first | refine blk_drewN ?_ _ | refine blk_drew ?_ | refine blk_alloc ?_ _)); exact BK140.out⟩, ⟨by repeat (first | (with_reducible first | exact HB.out | apply below_alloc | apply pw_below_drewN | apply below_drew1 | refine below_set ?_ GE140.out) | exact HB.out)⟩⟩
                    case round =>
                      clear H'
                      try clear c1
                      try clear c2
                      try clear p2
                      try clear c6
                      try clear c6b0
                      try clear p6
                      try clear c7
                      try clear c7b0
                      try clear c8
                      try clear c8b0
                      try clear p2
                      try clear p6
                      obtain ⟨x8_4, x141000_4, x141001_4, x141002_4, x141003_4, rfl, HA, HK4, BK140, HB⟩ := hrel
                      cases gk with
                      | zero => exact absurd HA.out (by simp [schismalaw34_balanced.l3])
                      | succ k4 =>
                        have H := HA.out
                        clear HA
                        simp only [schismalaw34_balanced.l3] at H
                        by_cases c9 : x8_4 < (t141.length : Int)
                        · rw [if_pos c9] at H
                          have c9b0 : decide (x8_4 < (t141.length : Int)) = true := decide_eq_true c9
                          clear c9
                          replace H := Option.bind_eq_some_iff.mp H
                          obtain ⟨t144, A100, H⟩ := H
                          replace H : ((schismalaw34_part.f k4 a0 x7_3 x5_1 ((wrap64 (97 + x8_4)) % 256)).bind fun t145 => (if (wrap64 (t144 - t145)) > 1 then ((schismalaw34_letter.f x8_4).bind fun t146 => (some (x5_1, x6_2, x7_3, t146, false))) else (if (wrap64 (t144 - t145)) < (-1) then ((schismalaw34_letter.f x8_4).bind fun t147 => (some (x5_1, x6_2, x7_3, t147, false))) else (schismalaw34_balanced.l3 k4 a0 (t141.length : Int) x5_1 x6_2 x7_3 (wrap64 (x8_4 + 1)))))) = some (r1, r2, r3, r4, r5) := H
                          have A10 := Aside0.mk A100
                          clear A100
                          replace H := Option.bind_eq_some_iff.mp H
                          obtain ⟨t145, A110, H⟩ := H
                          replace H : (if (wrap64 (t144 - t145)) > 1 then ((schismalaw34_letter.f x8_4).bind fun t146 => (some (x5_1, x6_2, x7_3, t146, false))) else (if (wrap64 (t144 - t145)) < (-1) then ((schismalaw34_letter.f x8_4).bind fun t147 => (some (x5_1, x6_2, x7_3, t147, false))) else (schismalaw34_balanced.l3 k4 a0 (t141.length : Int) x5_1 x6_2 x7_3 (wrap64 (x8_4 + 1))))) = some (r1, r2, r3, r4, r5) := H
                          have A11 := Aside0.mk A110
                          clear A110
                          by_cases c12 : (wrap64 (t144 - t145)) > 1
                          · rw [if_pos c12] at H
                            have c12b0 : decide (1 < (wrap64 (t144 - t145))) = true := decide_eq_true c12
                            clear c12
                            replace H := Option.bind_eq_some_iff.mp H
                            obtain ⟨t146, A130, H⟩ := H
                            replace H : (some (x5_1, x6_2, x7_3, t146, false)) = some (r1, r2, r3, r4, r5) := H
                            have A13 := Aside0.mk A130
                            clear A130
                            simp only [Option.some.injEq, Prod.mk.injEq] at H
                            obtain ⟨rfl, rfl, rfl, rfl, rfl⟩ := H
                            go_wp2_with (first | ((with_reducible refine gate_callee (f := 35) rfl ?_); refine goesL_ (some 44) rfl rfl Try.func35 (by kernel_rfl) rfl #[.string a0, .int .i64 x6_2, .int .i64 x5_1, .int .u8 ((wrap64 (97 + x8_4)) % 256)] rfl (by (try simp only [List.map_toArray, List.map_cons, List.map_nil]); first | done | rfl | (simp only [List.length_drop, List.length_take]; rfl)) ?_; (with_reducible refine (schismalaw34_part.calls k4 a0 x6_2 x5_1 ((wrap64 (97 + x8_4)) % 256) t144 _ A10.out).mono ?_); rintro e w' ⟨rfl, ⟨nd, rfl⟩⟩; refine ⟨_, rfl, ?_⟩; (try (rw [drewN_self wr]; generalize hq_ : World.drewN wr _ = wr; have n0_ : Aside0 (wr.heap[gb140]? = some (.cells #[.int .i64 x141000_4, .int .i64 x141001_4, .int .i64 x141002_4, .string x141003_4] 28 (0, 0))) := ⟨by rw [← hq_]; exact (by (with_reducible repeat (first | refine blk_drewN ?_ _ | refine blk_drew ?_ | refine blk_alloc ?_ _)); exact BK140.out)⟩; have n1_ : Aside0 (Below w.heap.size w wr) := ⟨by rw [← hq_]; exact (by repeat (first | (with_reducible first | exact HB.out | apply below_alloc | apply pw_below_drewN | apply below_drew1 | refine below_set ?_ GE140.out) | exact HB.out))⟩; clear BK140 HB hq_; have BK140 := n0_; have HB := n1_; clear n0_ n1_))) | ((with_reducible refine gate_callee (f := 35) rfl ?_); refine goesL_ (some 51) rfl rfl Try.func35 (by kernel_rfl) rfl #[.string a0, .int .i64 x7_3, .int .i64 x5_1, .int .u8 ((wrap64 (97 + x8_4)) % 256)] rfl (by (try simp only [List.map_toArray, List.map_cons, List.map_nil]); first | done | rfl | (simp only [List.length_drop, List.length_take]; rfl)) ?_; (with_reducible refine (schismalaw34_part.calls k4 a0 x7_3 x5_1 ((wrap64 (97 + x8_4)) % 256) t145 _ A11.out).mono ?_); rintro e w' ⟨rfl, ⟨nd, rfl⟩⟩; refine ⟨_, rfl, ?_⟩; (try (rw [drewN_self wr]; generalize hq_ : World.drewN wr _ = wr; have n0_ : Aside0 (wr.heap[gb140]? = some (.cells #[.int .i64 x141000_4, .int .i64 x141001_4, .int .i64 x141002_4, .string x141003_4] 28 (0, 0))) := ⟨by rw [← hq_]; exact (by (with_reducible repeat (first | refine blk_drewN ?_ _ | refine blk_drew ?_ | refine blk_alloc ?_ _)); exact BK140.out)⟩; have n1_ : Aside0 (Below w.heap.size w wr) := ⟨by rw [← hq_]; exact (by repeat (first | (with_reducible first | exact HB.out | apply below_alloc | apply pw_below_drewN | apply below_drew1 | refine below_set ?_ GE140.out) | exact HB.out))⟩; clear BK140 HB hq_; have BK140 := n0_; have HB := n1_; clear n0_ n1_))) | ((with_reducible refine gate_callee (f := 33) rfl ?_); refine goesL_ (some 63) rfl rfl Try.func33 (by kernel_rfl) rfl #[.int .i64 x8_4] rfl (by (try simp only [List.map_toArray, List.map_cons, List.map_nil]); first | done | rfl | (simp only [List.length_drop, List.length_take]; rfl)) ?_; (with_reducible refine (schismalaw34_letter.calls x8_4 t146 _ A13.out).mono ?_); rintro e w14 ⟨rfl, hb⟩; refine ⟨_, rfl, ?_⟩; have n0_ := Aside0.mk (blk_below (g := gb140) (o := .cells #[.int .i64 x141000_4, .int .i64 x141001_4, .int .i64 x141002_4, .string x141003_4] 28 (0, 0)) (by (with_reducible repeat (first | refine blk_drewN ?_ _ | refine blk_drew ?_ | refine blk_alloc ?_ _)); exact BK140.out) hb); have n1_ := Aside0.mk (below_step (by repeat (first | (with_reducible first | exact HB.out | apply below_alloc | apply pw_below_drewN | apply below_drew1 | refine below_set ?_ GE140.out) | exact HB.out)) hb); clear BK140; clear HB; have BK140 := n0_; have HB := n1_; clear n0_ n1_; (try clear hb); (try clear hb2); (try clear hk); (try clear hi); have hcz15_0 : w14.cell? ⟨gb140, 0, none⟩ = some (.int .i64 x141000_4) := (blk_cell BK140.out 0).trans rfl; have hcz15_1 : w14.cell? ⟨gb140, 1, none⟩ = some (.int .i64 x141001_4) := (blk_cell BK140.out 1).trans rfl; have hcz15_2 : w14.cell? ⟨gb140, 2, none⟩ = some (.int .i64 x141002_4) := (blk_cell BK140.out 2).trans rfl; have hcz15_3 : w14.cell? ⟨gb140, 3, none⟩ = some (.string x141003_4) := (blk_cell BK140.out 3).trans rfl; have hfz15_0 := blk_frozen BK140.out 0; have hfz15_1 := blk_frozen BK140.out 1; have hfz15_2 := blk_frozen BK140.out 2; have hfz15_3 := blk_frozen BK140.out 3))
                            refine bodyPost_ret (results_ct rfl _ _ gb140 28 #[.int .i64 x5_1, .int .i64 x6_2, .int .i64 x7_3, .string t146] (0, 0) _ rfl (by (with_reducible repeat (first | refine blk_drewN ?_ _ | refine blk_drew ?_ | refine blk_alloc ?_ _)); refine blk_put (cs := #[.int .i64 x5_1, .int .i64 x6_2, .int .i64 x7_3, .string x141003_4]) ?_ 3 _ rfl; (with_reducible repeat (first | refine blk_drewN ?_ _ | refine blk_drew ?_ | refine blk_alloc ?_ _)); refine blk_put (cs := #[.int .i64 x5_1, .int .i64 x6_2, .int .i64 x141002_4, .string x141003_4]) ?_ 2 _ rfl; (with_reducible repeat (first | refine blk_drewN ?_ _ | refine blk_drew ?_ | refine blk_alloc ?_ _)); refine blk_put (cs := #[.int .i64 x5_1, .int .i64 x141001_4, .int .i64 x141002_4, .string x141003_4]) ?_ 1 _ rfl; (with_reducible repeat (first | refine blk_drewN ?_ _ | refine blk_drew ?_ | refine blk_alloc ?_ _)); refine blk_put (cs := #[.int .i64 x141000_4, .int .i64 x141001_4, .int .i64 x141002_4, .string x141003_4]) ?_ 0 _ rfl; (with_reducible repeat (first | refine blk_drewN ?_ _ | refine blk_drew ?_ | refine blk_alloc ?_ _)); exact BK140.out) Try.underlying28 rfl (by kernel_rfl)) rfl ?_
                            exact ⟨by first | rfl | (simp [errW_none, errW_some] <;> rfl) | (simp [*, errW_none, errW_some] <;> rfl), by repeat (first | (with_reducible first | exact HB.out | apply below_alloc | apply pw_below_drewN | apply below_drew1 | refine below_set ?_ GE140.out) | exact HB.out)⟩
                          · rw [if_neg c12] at H
                            have c12b0 : decide (1 < (wrap64 (t144 - t145))) = false := decide_eq_false c12
                            clear c12
                            by_cases c16 : (wrap64 (t144 - t145)) < (-1)
                            · rw [if_pos c16] at H
                              have c16b0 : decide ((wrap64 (t144 - t145)) < (-1)) = true := decide_eq_true c16
                              clear c16
                              replace H := Option.bind_eq_some_iff.mp H
                              obtain ⟨t147, A170, H⟩ := H
                              replace H : (some (x5_1, x6_2, x7_3, t147, false)) = some (r1, r2, r3, r4, r5) := H
                              have A17 := Aside0.mk A170
                              clear A170
                              simp only [Option.some.injEq, Prod.mk.injEq] at H
                              obtain ⟨rfl, rfl, rfl, rfl, rfl⟩ := H
                              go_wp2_with (first | ((with_reducible refine gate_callee (f := 35) rfl ?_); refine goesL_ (some 44) rfl rfl Try.func35 (by kernel_rfl) rfl #[.string a0, .int .i64 x6_2, .int .i64 x5_1, .int .u8 ((wrap64 (97 + x8_4)) % 256)] rfl (by (try simp only [List.map_toArray, List.map_cons, List.map_nil]); first | done | rfl | (simp only [List.length_drop, List.length_take]; rfl)) ?_; (with_reducible refine (schismalaw34_part.calls k4 a0 x6_2 x5_1 ((wrap64 (97 + x8_4)) % 256) t144 _ A10.out).mono ?_); rintro e w' ⟨rfl, ⟨nd, rfl⟩⟩; refine ⟨_, rfl, ?_⟩; (try (rw [drewN_self wr]; generalize hq_ : World.drewN wr _ = wr; have n0_ : Aside0 (wr.heap[gb140]? = some (.cells #[.int .i64 x141000_4, .int .i64 x141001_4, .int .i64 x141002_4, .string x141003_4] 28 (0, 0))) := ⟨by rw [← hq_]; exact (by (with_reducible repeat (first | refine blk_drewN ?_ _ | refine blk_drew ?_ | refine blk_alloc ?_ _)); exact BK140.out)⟩; have n1_ : Aside0 (Below w.heap.size w wr) := ⟨by rw [← hq_]; exact (by repeat (first | (with_reducible first | exact HB.out | apply below_alloc | apply pw_below_drewN | apply below_drew1 | refine below_set ?_ GE140.out) | exact HB.out))⟩; clear BK140 HB hq_; have BK140 := n0_; have HB := n1_; clear n0_ n1_))) | ((with_reducible refine gate_callee (f := 35) rfl ?_); refine goesL_ (some 51) rfl rfl Try.func35 (by kernel_rfl) rfl #[.string a0, .int .i64 x7_3, .int .i64 x5_1, .int .u8 ((wrap64 (97 + x8_4)) % 256)] rfl (by (try simp only [List.map_toArray, List.map_cons, List.map_nil]); first | done | rfl | (simp only [List.length_drop, List.length_take]; rfl)) ?_; (with_reducible refine (schismalaw34_part.calls k4 a0 x7_3 x5_1 ((wrap64 (97 + x8_4)) % 256) t145 _ A11.out).mono ?_); rintro e w' ⟨rfl, ⟨nd, rfl⟩⟩; refine ⟨_, rfl, ?_⟩; (try (rw [drewN_self wr]; generalize hq_ : World.drewN wr _ = wr; have n0_ : Aside0 (wr.heap[gb140]? = some (.cells #[.int .i64 x141000_4, .int .i64 x141001_4, .int .i64 x141002_4, .string x141003_4] 28 (0, 0))) := ⟨by rw [← hq_]; exact (by (with_reducible repeat (first | refine blk_drewN ?_ _ | refine blk_drew ?_ | refine blk_alloc ?_ _)); exact BK140.out)⟩; have n1_ : Aside0 (Below w.heap.size w wr) := ⟨by rw [← hq_]; exact (by repeat (first | (with_reducible first | exact HB.out | apply below_alloc | apply pw_below_drewN | apply below_drew1 | refine below_set ?_ GE140.out) | exact HB.out))⟩; clear BK140 HB hq_; have BK140 := n0_; have HB := n1_; clear n0_ n1_))) | ((with_reducible refine gate_callee (f := 33) rfl ?_); refine goesL_ (some 63) rfl rfl Try.func33 (by kernel_rfl) rfl #[.int .i64 x8_4] rfl (by (try simp only [List.map_toArray, List.map_cons, List.map_nil]); first | done | rfl | (simp only [List.length_drop, List.length_take]; rfl)) ?_; (with_reducible refine (schismalaw34_letter.calls x8_4 t147 _ A17.out).mono ?_); rintro e w18 ⟨rfl, hb⟩; refine ⟨_, rfl, ?_⟩; have n0_ := Aside0.mk (blk_below (g := gb140) (o := .cells #[.int .i64 x141000_4, .int .i64 x141001_4, .int .i64 x141002_4, .string x141003_4] 28 (0, 0)) (by (with_reducible repeat (first | refine blk_drewN ?_ _ | refine blk_drew ?_ | refine blk_alloc ?_ _)); exact BK140.out) hb); have n1_ := Aside0.mk (below_step (by repeat (first | (with_reducible first | exact HB.out | apply below_alloc | apply pw_below_drewN | apply below_drew1 | refine below_set ?_ GE140.out) | exact HB.out)) hb); clear BK140; clear HB; have BK140 := n0_; have HB := n1_; clear n0_ n1_; (try clear hb); (try clear hb2); (try clear hk); (try clear hi); have hcz19_0 : w18.cell? ⟨gb140, 0, none⟩ = some (.int .i64 x141000_4) := (blk_cell BK140.out 0).trans rfl; have hcz19_1 : w18.cell? ⟨gb140, 1, none⟩ = some (.int .i64 x141001_4) := (blk_cell BK140.out 1).trans rfl; have hcz19_2 : w18.cell? ⟨gb140, 2, none⟩ = some (.int .i64 x141002_4) := (blk_cell BK140.out 2).trans rfl; have hcz19_3 : w18.cell? ⟨gb140, 3, none⟩ = some (.string x141003_4) := (blk_cell BK140.out 3).trans rfl; have hfz19_0 := blk_frozen BK140.out 0; have hfz19_1 := blk_frozen BK140.out 1; have hfz19_2 := blk_frozen BK140.out 2; have hfz19_3 := blk_frozen BK140.out 3))
                              refine bodyPost_ret (results_ct rfl _ _ gb140 28 #[.int .i64 x5_1, .int .i64 x6_2, .int .i64 x7_3, .string t147] (0, 0) _ rfl (by (with_reducible repeat (first | refine blk_drewN ?_ _ | refine blk_drew ?_ | refine blk_alloc ?_ _)); refine blk_put (cs := #[.int .i64 x5_1, .int .i64 x6_2, .int .i64 x7_3, .string x141003_4]) ?_ 3 _ rfl; (with_reducible repeat (first | refine blk_drewN ?_ _ | refine blk_drew ?_ | refine blk_alloc ?_ _)); refine blk_put (cs := #[.int .i64 x5_1, .int .i64 x6_2, .int .i64 x141002_4, .string x141003_4]) ?_ 2 _ rfl; (with_reducible repeat (first | refine blk_drewN ?_ _ | refine blk_drew ?_ | refine blk_alloc ?_ _)); refine blk_put (cs := #[.int .i64 x5_1, .int .i64 x141001_4, .int .i64 x141002_4, .string x141003_4]) ?_ 1 _ rfl; (with_reducible repeat (first | refine blk_drewN ?_ _ | refine blk_drew ?_ | refine blk_alloc ?_ _)); refine blk_put (cs := #[.int .i64 x141000_4, .int .i64 x141001_4, .int .i64 x141002_4, .string x141003_4]) ?_ 0 _ rfl; (with_reducible repeat (first | refine blk_drewN ?_ _ | refine blk_drew ?_ | refine blk_alloc ?_ _)); exact BK140.out) Try.underlying28 rfl (by kernel_rfl)) rfl ?_
                              exact ⟨by first | rfl | (simp [errW_none, errW_some] <;> rfl) | (simp [*, errW_none, errW_some] <;> rfl), by repeat (first | (with_reducible first | exact HB.out | apply below_alloc | apply pw_below_drewN | apply below_drew1 | refine below_set ?_ GE140.out) | exact HB.out)⟩
                            · rw [if_neg c16] at H
                              have c16b0 : decide ((wrap64 (t144 - t145)) < (-1)) = false := decide_eq_false c16
                              clear c16
                              have H' := Aside0.mk H
                              clear H
                              go_wp2_with (first | ((with_reducible refine gate_callee (f := 35) rfl ?_); refine goesL_ (some 44) rfl rfl Try.func35 (by kernel_rfl) rfl #[.string a0, .int .i64 x6_2, .int .i64 x5_1, .int .u8 ((wrap64 (97 + x8_4)) % 256)] rfl (by (try simp only [List.map_toArray, List.map_cons, List.map_nil]); first | done | rfl | (simp only [List.length_drop, List.length_take]; rfl)) ?_; (with_reducible refine (schismalaw34_part.calls k4 a0 x6_2 x5_1 ((wrap64 (97 + x8_4)) % 256) t144 _ A10.out).mono ?_); rintro e w' ⟨rfl, ⟨nd, rfl⟩⟩; refine ⟨_, rfl, ?_⟩) | ((with_reducible refine gate_callee (f := 35) rfl ?_); refine goesL_ (some 51) rfl rfl Try.func35 (by kernel_rfl) rfl #[.string a0, .int .i64 x7_3, .int .i64 x5_1, .int .u8 ((wrap64 (97 + x8_4)) % 256)] rfl (by (try simp only [List.map_toArray, List.map_cons, List.map_nil]); first | done | rfl | (simp only [List.length_drop, List.length_take]; rfl)) ?_; (with_reducible refine (schismalaw34_part.calls k4 a0 x7_3 x5_1 ((wrap64 (97 + x8_4)) % 256) t145 _ A11.out).mono ?_); rintro e w' ⟨rfl, ⟨nd, rfl⟩⟩; refine ⟨_, rfl, ?_⟩))
                              go_roundg k4
                              case measure => have := HK1.out; have := HK2.out; have := HK3.out; have := HK4.out; omega
                              case rel => exact ⟨(wrap64 (x8_4 + 1)), (x141000_4), (x141001_4), (x141002_4), (x141003_4), (by first | rfl | (simp; done) | (simp [*]; done)), H', ⟨by have := HK1.out; have := HK2.out; have := HK3.out; have := HK4.out; omega⟩, ⟨by (with_reducible repeat (first | refine blk_drewN ?_ _ | refine blk_drew ?_ | refine blk_alloc ?_ _)); exact BK140.out⟩, ⟨by repeat (first | (with_reducible first | exact HB.out | apply below_alloc | apply pw_below_drewN | apply below_drew1 | refine below_set ?_ GE140.out) | exact HB.out)⟩⟩
                        · rw [if_neg c9] at H
                          have c9b0 : decide (x8_4 < (t141.length : Int)) = false := decide_eq_false c9
                          clear c9
                          have H' := Aside0.mk H
                          clear H
                          go_wp2
                          go_roundg k4
                          case measure => have := HK1.out; have := HK2.out; have := HK3.out; have := HK4.out; omega
                          case rel => exact ⟨(wrap64 (x7_3 + 1)), (x141000_4), (x141001_4), (x141002_4), (x141003_4), (by first | rfl | (simp; done) | (simp [*]; done)), H', ⟨by have := HK1.out; have := HK2.out; have := HK3.out; have := HK4.out; omega⟩, ⟨by (with_reducible repeat (first | refine blk_drewN ?_ _ | refine blk_drew ?_ | refine blk_alloc ?_ _)); exact BK140.out⟩, ⟨by repeat (first | (with_reducible first | exact HB.out | apply below_alloc | apply pw_below_drewN | apply below_drew1 | refine below_set ?_ GE140.out) | exact HB.out)⟩⟩
                  · rw [if_neg c8] at H
                    have c8b0 : decide (x7_3 < (a0.size : Int)) = false := decide_eq_false c8
                    clear c8
                    have H' := Aside0.mk H
                    clear H
                    go_wp2
                    go_roundg k3
                    case measure => have := HK1.out; have := HK2.out; have := HK3.out; omega
                    case rel => exact ⟨(wrap64 (x6_2 + 1)), (x141000_3), (x141001_3), (x141002_3), (x141003_3), (by first | rfl | (simp; done) | (simp [*]; done)), H', ⟨by have := HK1.out; have := HK2.out; have := HK3.out; omega⟩, ⟨by (with_reducible repeat (first | refine blk_drewN ?_ _ | refine blk_drew ?_ | refine blk_alloc ?_ _)); exact BK140.out⟩, ⟨by repeat (first | (with_reducible first | exact HB.out | apply below_alloc | apply pw_below_drewN | apply below_drew1 | refine below_set ?_ GE140.out) | exact HB.out)⟩⟩
            · rw [if_neg c7] at H
              have c7b0 : decide (x6_2 < (a0.size : Int)) = false := decide_eq_false c7
              clear c7
              have H' := Aside0.mk H
              clear H
              go_wp2
              go_roundg k2
              case measure => have := HK1.out; have := HK2.out; omega
              case rel => exact ⟨(wrap64 (x5_1 + 1)), (x141000_2), (x141001_2), (x141002_2), (x141003_2), (by first | rfl | (simp; done) | (simp [*]; done)), H', ⟨by have := HK1.out; have := HK2.out; omega⟩, ⟨by (with_reducible repeat (first | refine blk_drewN ?_ _ | refine blk_drew ?_ | refine blk_alloc ?_ _)); exact BK140.out⟩, ⟨by repeat (first | (with_reducible first | exact HB.out | apply below_alloc | apply pw_below_drewN | apply below_drew1 | refine below_set ?_ GE140.out) | exact HB.out)⟩⟩
      · rw [if_neg c6] at H
        have c6b0 : decide (x5_1 < (a0.size : Int)) = false := decide_eq_false c6
        clear c6
        simp only [Option.some.injEq, Prod.mk.injEq] at H
        obtain ⟨rfl, rfl, rfl, rfl, rfl⟩ := H
        have hcz20_0 : wr.cell? ⟨gb140, 0, none⟩ = some (.int .i64 x141000_1) := (blk_cell BK140.out 0).trans rfl
        have hcz20_1 : wr.cell? ⟨gb140, 1, none⟩ = some (.int .i64 x141001_1) := (blk_cell BK140.out 1).trans rfl
        have hcz20_2 : wr.cell? ⟨gb140, 2, none⟩ = some (.int .i64 x141002_1) := (blk_cell BK140.out 2).trans rfl
        have hcz20_3 : wr.cell? ⟨gb140, 3, none⟩ = some (.string x141003_1) := (blk_cell BK140.out 3).trans rfl
        have hfz20_0 := blk_frozen BK140.out 0
        have hfz20_1 := blk_frozen BK140.out 1
        have hfz20_2 := blk_frozen BK140.out 2
        have hfz20_3 := blk_frozen BK140.out 3
        go_wp2
        refine bodyPost_ret (results_ct rfl _ _ gb140 28 #[.int .i64 0, .int .i64 0, .int .i64 0, .string (⟨#[]⟩ : ByteArray)] (0, 0) _ rfl (by (with_reducible repeat (first | refine blk_drewN ?_ _ | refine blk_drew ?_ | refine blk_alloc ?_ _)); refine blk_put (cs := #[.int .i64 0, .int .i64 0, .int .i64 0, .string x141003_1]) ?_ 3 _ rfl; (with_reducible repeat (first | refine blk_drewN ?_ _ | refine blk_drew ?_ | refine blk_alloc ?_ _)); refine blk_put (cs := #[.int .i64 0, .int .i64 0, .int .i64 x141002_1, .string x141003_1]) ?_ 2 _ rfl; (with_reducible repeat (first | refine blk_drewN ?_ _ | refine blk_drew ?_ | refine blk_alloc ?_ _)); refine blk_put (cs := #[.int .i64 0, .int .i64 x141001_1, .int .i64 x141002_1, .string x141003_1]) ?_ 1 _ rfl; (with_reducible repeat (first | refine blk_drewN ?_ _ | refine blk_drew ?_ | refine blk_alloc ?_ _)); refine blk_put (cs := #[.int .i64 x141000_1, .int .i64 x141001_1, .int .i64 x141002_1, .string x141003_1]) ?_ 0 _ rfl; (with_reducible repeat (first | refine blk_drewN ?_ _ | refine blk_drew ?_ | refine blk_alloc ?_ _)); exact BK140.out) Try.underlying28 rfl (by kernel_rfl)) rfl ?_
        exact ⟨by first | rfl | (simp [errW_none, errW_some] <;> rfl) | (simp [*, errW_none, errW_some] <;> rfl), by repeat (first | (with_reducible first | exact HB.out | apply below_alloc | apply pw_below_drewN | apply below_drew1 | refine below_set ?_ GE140.out) | exact HB.out)⟩

/-! ### schismalaw34_christoffel: function 16 -/
def schismalaw34_christoffel.l0 : Nat → Int → Int → ByteArray → Int → Option (ByteArray)
  | 0, _, _, _, _ => none
  | k + 1, x1, x5, x6, x7 => if x7 < x5 then (if x5 = 0 then (none) else (if (wrap64 (Int.tdiv (wrap64 ((wrap64 (x7 + 1)) * x1)) x5)) > (wrap64 (Int.tdiv (wrap64 (x7 * x1)) x5)) then (if x6.size + 1 ≤ 9223372036854775807 then (schismalaw34_christoffel.l0 k x1 x5 (x6 ++ (⟨#[98]⟩ : ByteArray)) (wrap64 (x7 + 1))) else (none)) else (if x6.size + 1 ≤ 9223372036854775807 then (schismalaw34_christoffel.l0 k x1 x5 (x6 ++ (⟨#[97]⟩ : ByteArray)) (wrap64 (x7 + 1))) else (none)))) else (some x6)
def schismalaw34_christoffel.f (k : Nat) (a0 : Int) (a1 : Int) : Option (ByteArray) := schismalaw34_christoffel.l0 k a1 (wrap64 (a0 + a1)) (⟨#[]⟩ : ByteArray) 0
theorem schismalaw34_christoffel.mono_l : ∀ k, (∀ y0 y1 y2 y3, LeO (schismalaw34_christoffel.l0 k y0 y1 y2 y3) (schismalaw34_christoffel.l0 (k + 1) y0 y1 y2 y3))
  | 0 => fun _ _ _ _ r h => by simp [schismalaw34_christoffel.l0] at h
  | k + 1 => by
    have ih0 := schismalaw34_christoffel.mono_l k
    · intro y0 y1 y2 y3
      unfold schismalaw34_christoffel.l0
      repeat' first
      | (with_reducible exact ih0 _ _ _ _)
      | (with_reducible exact LeO.refl _)
      | (with_reducible exact LeO.none _)
      | (with_reducible refine LeO.ite ?_ ?_)
      | (with_reducible refine LeO.bind ?_ (fun _ => ?_))
      | exact ih0 _ _ _ _
      | exact LeO.none _
      | refine LeO.ite ?_ ?_
      | refine LeO.bind ?_ (fun _ => ?_)
theorem schismalaw34_christoffel.mono : ∀ a0 a1 k, LeO (schismalaw34_christoffel.f k a0 a1) (schismalaw34_christoffel.f (k + 1) a0 a1) := by
  intro a0 a1 k
  have ih0 := schismalaw34_christoffel.mono_l k
  unfold schismalaw34_christoffel.f
  repeat' first
      | (with_reducible exact ih0 _ _ _ _)
      | (with_reducible exact LeO.refl _)
      | (with_reducible exact LeO.none _)
      | (with_reducible refine LeO.ite ?_ ?_)
      | (with_reducible refine LeO.bind ?_ (fun _ => ?_))
      | exact ih0 _ _ _ _
      | exact LeO.none _
      | refine LeO.ite ?_ ?_
      | refine LeO.bind ?_ (fun _ => ?_)
set_option maxHeartbeats 8000000 in
set_option maxRecDepth 100000 in
theorem schismalaw34_christoffel.calls (k : Nat) (a0 : Int) (a1 : Int) (r : ByteArray) (w : World) (h : schismalaw34_christoffel.f k a0 a1 = some r) :
    Calls Try.prog 16 #[.int .i64 a0, .int .i64 a1] w fun e w' => e = .returned (.string r) ∧ Drawn0 w w' := by
  have H : (schismalaw34_christoffel.l0 k a1 (wrap64 (a0 + a1)) (⟨#[]⟩ : ByteArray) 0) = some r := h
  clear h
  have H' := Aside0.mk H
  clear H
  go_enter Try.func16, Try.ntmps16
  go_wp2
  repeat (go_quiet (fail); try go_wp2)
  go_loopg [6, 7] k (fun kq v6 v7 w' => ∃ (x6_1 : ByteArray) (x7_1 : Int), v6 = .string x6_1 ∧ v7 = .int .i64 x7_1 ∧ Aside0 (schismalaw34_christoffel.l0 kq a1 (wrap64 (a0 + a1)) x6_1 x7_1 = some r) ∧ Aside0 (kq ≤ k) ∧ Drawn0 w w')
  case atStart => exact ⟨((⟨#[]⟩ : ByteArray)), (0), (by first | rfl | (simp; done) | (simp [*]; done)), (by first | rfl | (simp; done) | (simp [*]; done)), H', ⟨Nat.le_refl _⟩, by repeat (first | exact Drawn0.refl _ | apply Drawn0.step)⟩
  case round =>
    clear H'
    try clear c1
    try clear p2
    obtain ⟨x6_1, x7_1, rfl, rfl, HA, HK1, ⟨m1, rfl⟩⟩ := hrel
    cases gk with
    | zero => exact absurd HA.out (by simp [schismalaw34_christoffel.l0])
    | succ k1 =>
      have H := HA.out
      clear HA
      simp only [schismalaw34_christoffel.l0] at H
      by_cases c3 : x7_1 < (wrap64 (a0 + a1))
      · rw [if_pos c3] at H
        have c3b0 : decide (x7_1 < (wrap64 (a0 + a1))) = true := decide_eq_true c3
        clear c3
        by_cases c4 : (wrap64 (a0 + a1)) = 0
        · rw [if_pos c4] at H
          exact absurd H (by simp)
        · rw [if_neg c4] at H
          have c4b0 : ((wrap64 (a0 + a1)) == 0) = false := beq_eq_false_iff_ne.mpr c4
          have c4b1 : ((wrap64 (a0 + a1)) != 0) = true := bne_iff_ne.mpr c4
          by_cases c5 : (wrap64 (Int.tdiv (wrap64 ((wrap64 (x7_1 + 1)) * a1)) (wrap64 (a0 + a1)))) > (wrap64 (Int.tdiv (wrap64 (x7_1 * a1)) (wrap64 (a0 + a1))))
          · rw [if_pos c5] at H
            have c5b0 : decide ((wrap64 (Int.tdiv (wrap64 (x7_1 * a1)) (wrap64 (a0 + a1)))) < (wrap64 (Int.tdiv (wrap64 ((wrap64 (x7_1 + 1)) * a1)) (wrap64 (a0 + a1))))) = true := decide_eq_true c5
            clear c5
            by_cases c6 : x6_1.size + 1 ≤ 9223372036854775807
            · rw [if_pos c6] at H
              have c6b0 := eq_true c6
              have c6b1 : decide (x6_1.size + 1 ≤ 9223372036854775807) = true := decide_eq_true c6
              try have c6b2 : (9223372036854775807 < x6_1.size + 1) = False := eq_false (Nat.not_lt.2 c6)
              have H' := Aside0.mk H
              clear H
              go_wp2
              repeat (go_quiet (fail); try go_wp2)
              go_roundg k1
              case measure => have := HK1.out; omega
              case rel => exact ⟨(x6_1 ++ (⟨#[98]⟩ : ByteArray)), (wrap64 (x7_1 + 1)), (by first | rfl | (simp; done) | (simp [*]; done)), (by first | rfl | (simp; done) | (simp [*]; done)), H', ⟨by have := HK1.out; omega⟩, by repeat (first | exact Drawn0.refl _ | apply Drawn0.step)⟩
            · rw [if_neg c6] at H
              exact absurd H (by simp)
          · rw [if_neg c5] at H
            have c5b0 : decide ((wrap64 (Int.tdiv (wrap64 (x7_1 * a1)) (wrap64 (a0 + a1)))) < (wrap64 (Int.tdiv (wrap64 ((wrap64 (x7_1 + 1)) * a1)) (wrap64 (a0 + a1))))) = false := decide_eq_false c5
            clear c5
            by_cases c7 : x6_1.size + 1 ≤ 9223372036854775807
            · rw [if_pos c7] at H
              have c7b0 := eq_true c7
              have c7b1 : decide (x6_1.size + 1 ≤ 9223372036854775807) = true := decide_eq_true c7
              try have c7b2 : (9223372036854775807 < x6_1.size + 1) = False := eq_false (Nat.not_lt.2 c7)
              have H' := Aside0.mk H
              clear H
              go_wp2
              repeat (go_quiet (fail); try go_wp2)
              go_roundg k1
              case measure => have := HK1.out; omega
              case rel => exact ⟨(x6_1 ++ (⟨#[97]⟩ : ByteArray)), (wrap64 (x7_1 + 1)), (by first | rfl | (simp; done) | (simp [*]; done)), (by first | rfl | (simp; done) | (simp [*]; done)), H', ⟨by have := HK1.out; omega⟩, by repeat (first | exact Drawn0.refl _ | apply Drawn0.step)⟩
            · rw [if_neg c7] at H
              exact absurd H (by simp)
      · rw [if_neg c3] at H
        have c3b0 : decide (x7_1 < (wrap64 (a0 + a1))) = false := decide_eq_false c3
        clear c3
        obtain rfl := Option.some.inj H
        go_wp2
        repeat (go_quiet (fail); try go_wp2)
        go_ret
        exact ⟨by first | rfl | (simp; done) | (simp [*]; done), by repeat (first | exact Drawn0.refl _ | apply Drawn0.step)⟩

end Go.Proofs.Ytpommkpgiogjgaa.X
