/- (*maker).extend with letters to go: one round for each letter that may come next, and the maker's word and rest as they were behind it: for every maker whose rows are its own. -/
import Derived.Test.YtpommkpgiogjgaaEExt
import Derived.BigRegion
set_option linter.unusedVariables false
set_option linter.unusedSimpArgs false
namespace Go.Proofs.Ytpommkpgiogjgaa.X
open Go.RowKit Go.Proofs.YtpommkpgiogjgaaW.PrintWords Go.Proofs.YtpommkpgiogjgaaW.PrintLast Go.Proofs.YtpommkpgiogjgaaW.PrintMore

/-- what is said of a maker with s letters to go -/
def ExtSaid (n s : Nat) : Prop := ∀ (W R : List Nat) (p : Nat) (O : List (List Nat)) (full : Bool) (vr vw vo : Value) (B g : Nat) (w0 w : World), W.length + s = n → 1 ≤ p → p ≤ 61 → R.length ≤ 26 → (∀ x ∈ R, x ≤ 60) → (∀ x ∈ W, x < 26) → O.length ≤ 5000 →
    Mk B g R W O full vr vw vo w → Below B w0 w → B ≤ w.heap.size →
    Calls Try.prog 39 #[.pointer (some ⟨g, 0, none⟩), .int .i64 (n : Int), .int .i64 (p : Int)] w fun e w' => e = .returned (.tuple #[]) ∧ ∃ vw' vo', Mk B g R W (extN s W p R (O, full)).1 (extN s W p R (O, full)).2 vr vw' vo' w' ∧ Below B w0 w'
theorem addN_len {st : List (List Nat) × Bool} {x : List Nat} (h : st.1.length ≤ 5000) : (addN st x).1.length ≤ 5000 := by
  unfold addN
  split
  · exact h
  · simp; omega
theorem foldl_inv {α β : Type} (P : β → Prop) (f : β → α → β) (l : List α) (b : β) (hb : P b) (hf : ∀ b a, P b → P (f b a)) : P (l.foldl f b) := by
  induction l generalizing b with
  | nil => exact hb
  | cons a l ih => exact ih _ (hf b a hb)
theorem extN_len : ∀ (s : Nat) (W : List Nat) (p : Nat) (R : List Nat) (st : List (List Nat) × Bool), st.1.length ≤ 5000 → (extN s W p R st).1.length ≤ 5000 := by
  intro s
  induction s with
  | zero =>
    intro W p R st h
    simp only [extN]
    split
    · exact h
    · split
      · exact addN_len h
      · exact h
  | succ s ih =>
    intro W p R st h
    simp only [extN]
    split
    · exact h
    · refine foldl_inv (fun (st : List (List Nat) × Bool) => st.1.length ≤ 5000) _ _ _ h fun st c hst => ?_
      split
      · exact hst
      · exact ih _ _ _ _ hst
theorem getD_le {R : List Nat} {b : Nat} (h : ∀ x ∈ R, x ≤ b) (i : Nat) : R.getD i 0 ≤ b := by
  rw [List.getD_eq_getElem?_getD]
  cases hx : R[i]? with
  | none => exact Nat.zero_le _
  | some x => exact h x (List.mem_of_getElem? hx)
theorem getD_lt {R : List Nat} {b : Nat} (hb : 0 < b) (h : ∀ x ∈ R, x < b) (i : Nat) : R.getD i 0 < b := by
  rw [List.getD_eq_getElem?_getD]
  cases hx : R[i]? with
  | none => exact hb
  | some x => exact h x (List.mem_of_getElem? hx)
/-- the word's last letter is taken away -/
theorem Mk.pop {B g : Nat} {R W : List Nat} {c : Nat} {O : List (List Nat)} {full : Bool} {vr vo : Value} {w : World} {g4 cap4 : Nat} (h : Mk B g R (W ++ [c]) O full vr (.slice (some ⟨g4, 0, none⟩) (W.length + 1) cap4) vo w) :
    Mk B g R W O full vr (.slice (some ⟨g4, 0, none⟩) W.length cap4) vo (w.setCell ⟨g, 1, none⟩ (.slice (some ⟨g4, 0, none⟩) W.length cap4)) := by
  have hw : w.ownsRow B 5 1 (.slice (some ⟨g4, 0, none⟩) W.length cap4) W.length (cW W) := by
    have := h.word
    rw [List.length_append, cW_snoc] at this
    exact ownsRow_pop (by simp [cW_length]) this
  exact h.wordGrown (World.grownBy.refl w _) hw
theorem set_back {R : List Nat} {c x : Nat} (h : R.getD c 0 = x) (hc : c < R.length) : (R.set c (x - 1)).set c x = R := by
  rw [List.set_set]
  apply List.ext_getElem?
  intro i
  rw [List.getElem?_set]
  split
  · rename_i e
    subst e
    simp [← h, List.getD_eq_getElem?_getD, List.getElem?_eq_getElem hc, hc]
  · rfl
theorem info5' : (Try.prog.info? 5).map (fun i => (i.zero, i.size, i.bytes)) = some (some (.int .u8 0), 1, 1) := by kernel_rfl
set_option maxHeartbeats 16000000 in
set_option maxRecDepth 100000 in
theorem extend_step {n s : Nat} (hn : n ≤ 60) (ih : ExtSaid n s) : ExtSaid n (s + 1) := by
  intro W R p O full vr vw vo B g w0 w hW hp hp2 hR hR2 hW2 hO h hB hBw
  cases full with
  | true =>
    refine (extend_full h).mono ?_
    rintro e w' ⟨rfl, rfl⟩
    have he : extN (s + 1) W p R (O, true) = (O, true) := by simp [extN]
    exact ⟨rfl, vw, vo, by rw [he]; exact h, hB⟩
  | false =>
  have IH := Aside0.mk ih
  have HR2 := Aside0.mk hR2
  have HW2 := Aside0.mk hW2
  clear ih hR2 hW2
  obtain ⟨c0, c1, c2, c3⟩ := h.cells
  obtain ⟨Aw, kw, ew⟩ := own_slice h.word
  subst ew
  have hE : extN (s + 1) W p R (O, false) = (List.range' (firstN W p) (R.length - firstN W p)).foldl (fun st c => if R.getD c 0 = 0 then st else extN s (W ++ [c]) (nextN W p c) (R.set c (R.getD c 0 - 1)) st) (O, false) := by simp [extN]
  generalize hX : extN (s + 1) W p R (O, false) = X at hE
  have HE := Aside0.mk hE.symm
  have HM := Aside0.mk h
  have HB := Aside0.mk hB
  clear h hB hE hX
  have b0 : ((W.length : Int) == (n : Int)) = false := by rw [beq_eq_false_iff_ne]; omega
  have hn' : W.length < n := by omega
  go_enter Try.func39, Try.ntmps39
  by_cases hpw : p ≤ W.length
  · have b1 : decide ((p : Int) ≤ (W.length : Int)) = true := decide_eq_true (by omega)
    obtain ⟨gw, cap, ev, _, _⟩ := HM.out.word.form (by omega)
    obtain ⟨rfl, rfl⟩ : Aw = some ⟨gw, 0, none⟩ ∧ kw = cap := by injection ev with e1 _ e3; exact ⟨e1, e3⟩
    have cw : w.cell? ⟨gw, W.length - p, none⟩ = some (.int .u8 (97 + (letterAt W (W.length - p) : Int))) := by
      have := HM.out.word.cellAt (W.length - p) (by omega)
      rw [this, cW_get W _ (by omega)]
    have hx : letterAt W (W.length - p) < 26 := getD_lt (by decide) HW2.out _
    have hfe : firstN W p = letterAt W (W.length - p) := by unfold firstN; rw [if_pos hpw]
    rw [hfe] at HE
    have HF := Aside0.mk hfe
    clear hfe ev
    generalize letterAt W (W.length - p) = f at *
    go_wp2
    rw [show (97 + (f : Int) - 97) = (f : Int) by omega]
    go_loopw [8] (fun v wr => ∃ (c : Nat) (st : List (List Nat) × Bool) (vw' vo' : Value), c ≤ 26 ∧ v = .int .i64 c ∧ Aside0 (Mk B g R W st.1 st.2 vr vw' vo' wr) ∧ Aside0 (Below B w0 wr) ∧ Aside0 (st.1.length ≤ 5000) ∧
        Aside0 ((List.range' c (R.length - c)).foldl (fun st c => if R.getD c 0 = 0 then st else extN s (W ++ [c]) (nextN W p c) (R.set c (R.getD c 0 - 1)) st) st = X)) (fun v _ => (26 - intOf v).toNat)
    case atStart => exact ⟨f, (O, false), _, _, by omega, rfl, HM, HB, ⟨hO⟩, HE⟩
    case round =>
      clear HE HM HB c0 c1 c2 c3
      obtain ⟨c, st, vw', vo', hc, rfl, HM, HB, HO, HE⟩ := hrel
      obtain ⟨Ar, kr, er⟩ := own_slice HM.out.rest
      obtain ⟨Aw', kw', ew'⟩ := own_slice HM.out.word
      subst er ew'
      obtain ⟨c0, c1, c2, c3⟩ := HM.out.cells
      by_cases hlt : c < R.length
      · obtain ⟨gr, cap, ev, _, _⟩ := HM.out.rest.form (by omega)
        obtain ⟨rfl, rfl⟩ : Ar = some ⟨gr, 0, none⟩ ∧ kr = cap := by injection ev with e1 _ e3; exact ⟨e1, e3⟩
        clear ev
        have cr : wr.cell? ⟨gr, c, none⟩ = some (.int .i64 (R.getD c 0 : Int)) := by
          rw [HM.out.rest.cellAt c (by omega), cR_get R c hlt]
        have hx := getD_le HR2.out c
        have hstep : (List.range' c (R.length - c)).foldl (fun st c => if R.getD c 0 = 0 then st else extN s (W ++ [c]) (nextN W p c) (R.set c (R.getD c 0 - 1)) st) st = (List.range' (c + 1) (R.length - (c + 1))).foldl (fun st c => if R.getD c 0 = 0 then st else extN s (W ++ [c]) (nextN W p c) (R.set c (R.getD c 0 - 1)) st) (if R.getD c 0 = 0 then st else extN s (W ++ [c]) (nextN W p c) (R.set c (R.getD c 0 - 1)) st) := by
          rw [show R.length - c = (R.length - (c + 1)) + 1 by omega, List.range'_succ, List.foldl_cons]
        have HE2 := Aside0.mk (hstep.symm.trans HE.out)
        clear hstep HE
        generalize hxx : R.getD c 0 = x at *
        have HXX := Aside0.mk hxx
        clear hxx
        by_cases hz : x = 0
        · subst hz
          have HE3 := HE2.out
          rw [if_pos rfl] at HE3
          have HE4 := Aside0.mk HE3
          clear HE3 HE2
          go_wp2
          go_roundw
          case rel => exact ⟨c + 1, st, _, _, by omega, by go_num, HM, HB, HO, HE4⟩
          case measure => simp [intOf]; omega
        · have bz : ((x : Int) == 0) = false := by rw [beq_eq_false_iff_ne]; omega
          have HE3 := HE2.out
          rw [if_neg hz] at HE3
          have HE4 := Aside0.mk HE3
          have hz1 : 1 ≤ x := by omega
          clear HE3 HE2 hz
          have bl : decide ((W.length : Int) < (p : Int)) = false := decide_eq_false (by omega)
          by_cases hcf : c = f
          · have bq : ((c : Int) != (f : Int)) = false := by rw [bne_eq_false_iff_eq]; omega
            have hnx : nextN W p c = p := by unfold nextN; rw [HF.out, if_neg (by omega)]
            rw [hnx] at HE4
            clear hnx hcf
            have HQ2 : 1 ≤ p ∧ p ≤ 61 := by omega
            have fr : wr.frozen? ⟨gr, c, none⟩ = false := HM.out.rest.frozenAt c
            have ex : ((x - 1 : Nat) : Int) = (x : Int) - 1 := by omega
            have hM1 := HM.out.setRest c (x - 1)
            rw [ex] at hM1
            obtain ⟨i0, hi, hz0, hz1', hz2⟩ := info_parts info5'
            have HI := Aside0.mk hi
            have HA := Aside0.mk (hM1.alloc (.cells #[.int .u8 (97 + (c : Int))] 5))
            have hsz : wr.heap.size + 1 = ((wr.setCell ⟨gr, c, none⟩ (.int .i64 ((x : Int) - 1))).alloc (.cells #[.int .u8 (97 + (c : Int))] 5)).heap.size := by simp [World.setCell]
            have HSZ := Aside0.mk hsz
            obtain ⟨d0, d1, d2, d3⟩ := hM1.cells
            have HX1 := Aside0.mk ex
            have HBB := Aside0.mk (HB.out.size)
            clear hM1 hi ex d2 d3 c2 c3 hsz
            go_wp2_with (at_builtin; refine wpList_append_lies _ rfl _ _ 22 rfl B 5 i0 (.int .u8 0) 1 1 Try.underlying22 HI.out hz0 hz1' hz2 rfl (by decide) (.slice Aw' W.length kw') W.length (cW W) rfl HA.out.word ⟨wr.heap.size, 0, none⟩ 1 1 [.int .u8 (97 + (c : Int))] rfl rfl ?h1 ?h2 (by decide) ?h3 ?h4 ?h5 (wr.heap.size + 1) ?h6 ?_)
            case h1 =>
              intro j u hj
              match j, hj with
              | 0, hj =>
                simp at hj
                subst hj
                rw [add_plain, show wr.heap.size = (wr.setCell ⟨gr, c, none⟩ (.int .i64 ((x : Int) - 1))).heap.size by simp [World.setCell], cell_of_row _ _ _ _ _ _ (heap_alloc_new _ _)]
                rfl
            case h2 =>
              intro u hu
              simp at hu
              subst hu
              rfl
            case h3 => unfold maxLen; omega
            case h4 => omega
            case h5 => rw [← HSZ.out]; have := HBB.out; omega
            case h6 => exact HSZ.out.symm
            intro g3 cap3 w2 hown hgrow hlies hlt3
            obtain ⟨e1, e2⟩ := HA.out.wordAt hgrow
            have hown2 : w2.ownsRow B 5 1 (.slice (some ⟨g3, 0, none⟩) (W.length + 1) cap3) (W ++ [c]).length (cW (W ++ [c])) := by rw [cW_snoc, List.length_append]; exact hown
            have HM2 := Aside0.mk (HA.out.wordGrown hgrow hown2)
            have hb1 : Below B w0 ((wr.setCell ⟨gr, c, none⟩ (.int .i64 ((x : Int) - 1))).alloc (.cells #[.int .u8 (97 + (c : Int))] 5)) := (HB.out.setCell (p := ⟨gr, c, none⟩) (own_base HM.out.rest gr rfl) _).alloc (by have := HBB.out; simp [World.setCell]; omega) _
            have HB2 := Aside0.mk ((hb1.grown hgrow (by rw [← HSZ.out]; have := HBB.out; omega) (fun k hk => own_base HA.out.word k hk)).setCell (p := ⟨g, 1, none⟩) HM.out.gB (.slice (some ⟨g3, 0, none⟩) (W.length + 1) cap3))
            have HG2 := Aside0.mk hgrow.size
            clear hb1 hown hown2 hgrow hlies hlt3
            go_wp2_with fail
            refine (IH.out (W ++ [c]) (R.set c (x - 1)) p st.1 st.2 (.slice (some ⟨gr, 0, none⟩) R.length kr) _ vo' B g w0 _ ?i1 HQ2.1 HQ2.2 ?i2 ?i3 ?i4 HO.out HM2.out HB2.out ?i5).mono ?_
            case i1 => rw [List.length_append]; simp; omega
            case i2 => rw [List.length_set]; exact hR
            case i3 =>
              intro y hy
              rcases List.mem_or_eq_of_mem_set hy with h | h
              · exact HR2.out y h
              · omega
            case i4 =>
              intro y hy
              rcases List.mem_append.1 hy with h | h
              · exact HW2.out y h
              · have := List.mem_singleton.1 h; omega
            case i5 => have a := HG2.out; rw [← HSZ.out] at a; have := HBB.out; simp [World.setCell]; omega
            rintro e w3 ⟨rfl, vw3, vo3, hM3, hB3⟩
            obtain ⟨g4, cap4, ev4, hg4, _⟩ := hM3.word.form (by simp)
            have hcap4 : W.length + 1 ≤ cap4 := by
              rcases hM3.word.2 with ⟨_, h0⟩ | ⟨g5, cap5, cur5, e5, _, _, h5, _⟩
              · simp at h0
              · rw [ev4] at e5
                injection e5 with _ _ e6
                rw [e6]
                simpa using h5
            have el : (W ++ [c]).length = W.length + 1 := by simp
            rw [el] at ev4
            subst ev4
            have HM3 := Aside0.mk hM3
            obtain ⟨k0, k1, k2, k3⟩ := hM3.cells
            have k4 := hM3.free 1
            have HM4 := Aside0.mk HM3.out.pop
            have HB4 := Aside0.mk (hB3.setCell (p := ⟨g, 1, none⟩) HM.out.gB (.slice (some ⟨g4, 0, none⟩) W.length cap4))
            obtain ⟨m0, m1, m2, m3⟩ := HM4.out.cells
            have m4 : (w3.setCell ⟨g, 1, none⟩ (.slice (some ⟨g4, 0, none⟩) W.length cap4)).cell? ⟨gr, c, none⟩ = some (.int .i64 ((x : Int) - 1)) := by
              have := HM4.out.rest
              rw [List.length_set] at this
              rw [this.cellAt c (by omega), cR_get _ c (by rw [List.length_set]; exact hlt), ← HX1.out]
              simp [hlt]
            have m5 : (w3.setCell ⟨g, 1, none⟩ (.slice (some ⟨g4, 0, none⟩) W.length cap4)).frozen? ⟨gr, c, none⟩ = false := by
              have := HM4.out.rest
              rw [List.length_set] at this
              exact this.frozenAt c
            have HM5 := Aside0.mk ((show Mk B g (R.set c (x - 1)) W _ _ (.slice (some ⟨gr, 0, none⟩) (R.set c (x - 1)).length kr) _ _ _ by rw [List.length_set]; exact HM4.out).setRest c x)
            have HB5 := Aside0.mk (HB4.out.setCell (p := ⟨gr, c, none⟩) (own_base HM.out.rest gr rfl) (.int .i64 (x : Int)))
            have HSB := Aside0.mk (set_back HXX.out hlt)
            have HO5 := Aside0.mk (extN_len s (W ++ [c]) p (R.set c (x - 1)) st HO.out)
            clear hM3 hB3 c0 c1 cr fr d0 d1 e1 e2 k2 k3 m2 m3 el
            go_wp2
            go_region
            clear k0 k1 k4
            go_wp2
            go_roundw
            case rel =>
              have z := HM5.out.drew
              rw [HSB.out, List.length_set] at z
              exact ⟨c + 1, extN s (W ++ [c]) p (R.set c (x - 1)) st, _, _, by omega, by go_num, ⟨z⟩, ⟨below_drew HB5.out⟩, HO5, HE4⟩
            case measure => simp [intOf]; omega
          · have bq : ((c : Int) != (f : Int)) = true := by rw [bne_iff_ne]; omega
            have hnx : nextN W p c = W.length + 1 := by unfold nextN; rw [HF.out, if_pos (Or.inr hcf)]
            rw [hnx] at HE4
            clear hnx hcf
            have HQ2 : 1 ≤ (W.length + 1) ∧ (W.length + 1) ≤ 61 := by omega
            have fr : wr.frozen? ⟨gr, c, none⟩ = false := HM.out.rest.frozenAt c
            have ex : ((x - 1 : Nat) : Int) = (x : Int) - 1 := by omega
            have hM1 := HM.out.setRest c (x - 1)
            rw [ex] at hM1
            obtain ⟨i0, hi, hz0, hz1', hz2⟩ := info_parts info5'
            have HI := Aside0.mk hi
            have HA := Aside0.mk (hM1.alloc (.cells #[.int .u8 (97 + (c : Int))] 5))
            have hsz : wr.heap.size + 1 = ((wr.setCell ⟨gr, c, none⟩ (.int .i64 ((x : Int) - 1))).alloc (.cells #[.int .u8 (97 + (c : Int))] 5)).heap.size := by simp [World.setCell]
            have HSZ := Aside0.mk hsz
            obtain ⟨d0, d1, d2, d3⟩ := hM1.cells
            have HX1 := Aside0.mk ex
            have HBB := Aside0.mk (HB.out.size)
            clear hM1 hi ex d2 d3 c2 c3 hsz
            go_wp2_with (at_builtin; refine wpList_append_lies _ rfl _ _ 22 rfl B 5 i0 (.int .u8 0) 1 1 Try.underlying22 HI.out hz0 hz1' hz2 rfl (by decide) (.slice Aw' W.length kw') W.length (cW W) rfl HA.out.word ⟨wr.heap.size, 0, none⟩ 1 1 [.int .u8 (97 + (c : Int))] rfl rfl ?h1 ?h2 (by decide) ?h3 ?h4 ?h5 (wr.heap.size + 1) ?h6 ?_)
            case h1 =>
              intro j u hj
              match j, hj with
              | 0, hj =>
                simp at hj
                subst hj
                rw [add_plain, show wr.heap.size = (wr.setCell ⟨gr, c, none⟩ (.int .i64 ((x : Int) - 1))).heap.size by simp [World.setCell], cell_of_row _ _ _ _ _ _ (heap_alloc_new _ _)]
                rfl
            case h2 =>
              intro u hu
              simp at hu
              subst hu
              rfl
            case h3 => unfold maxLen; omega
            case h4 => omega
            case h5 => rw [← HSZ.out]; have := HBB.out; omega
            case h6 => exact HSZ.out.symm
            intro g3 cap3 w2 hown hgrow hlies hlt3
            obtain ⟨e1, e2⟩ := HA.out.wordAt hgrow
            have hown2 : w2.ownsRow B 5 1 (.slice (some ⟨g3, 0, none⟩) (W.length + 1) cap3) (W ++ [c]).length (cW (W ++ [c])) := by rw [cW_snoc, List.length_append]; exact hown
            have HM2 := Aside0.mk (HA.out.wordGrown hgrow hown2)
            have hb1 : Below B w0 ((wr.setCell ⟨gr, c, none⟩ (.int .i64 ((x : Int) - 1))).alloc (.cells #[.int .u8 (97 + (c : Int))] 5)) := (HB.out.setCell (p := ⟨gr, c, none⟩) (own_base HM.out.rest gr rfl) _).alloc (by have := HBB.out; simp [World.setCell]; omega) _
            have HB2 := Aside0.mk ((hb1.grown hgrow (by rw [← HSZ.out]; have := HBB.out; omega) (fun k hk => own_base HA.out.word k hk)).setCell (p := ⟨g, 1, none⟩) HM.out.gB (.slice (some ⟨g3, 0, none⟩) (W.length + 1) cap3))
            have HG2 := Aside0.mk hgrow.size
            clear hb1 hown hown2 hgrow hlies hlt3
            go_wp2_with fail
            refine (IH.out (W ++ [c]) (R.set c (x - 1)) (W.length + 1) st.1 st.2 (.slice (some ⟨gr, 0, none⟩) R.length kr) _ vo' B g w0 _ ?i1 HQ2.1 HQ2.2 ?i2 ?i3 ?i4 HO.out HM2.out HB2.out ?i5).mono ?_
            case i1 => rw [List.length_append]; simp; omega
            case i2 => rw [List.length_set]; exact hR
            case i3 =>
              intro y hy
              rcases List.mem_or_eq_of_mem_set hy with h | h
              · exact HR2.out y h
              · omega
            case i4 =>
              intro y hy
              rcases List.mem_append.1 hy with h | h
              · exact HW2.out y h
              · have := List.mem_singleton.1 h; omega
            case i5 => have a := HG2.out; rw [← HSZ.out] at a; have := HBB.out; simp [World.setCell]; omega
            rintro e w3 ⟨rfl, vw3, vo3, hM3, hB3⟩
            obtain ⟨g4, cap4, ev4, hg4, _⟩ := hM3.word.form (by simp)
            have hcap4 : W.length + 1 ≤ cap4 := by
              rcases hM3.word.2 with ⟨_, h0⟩ | ⟨g5, cap5, cur5, e5, _, _, h5, _⟩
              · simp at h0
              · rw [ev4] at e5
                injection e5 with _ _ e6
                rw [e6]
                simpa using h5
            have el : (W ++ [c]).length = W.length + 1 := by simp
            rw [el] at ev4
            subst ev4
            have HM3 := Aside0.mk hM3
            obtain ⟨k0, k1, k2, k3⟩ := hM3.cells
            have k4 := hM3.free 1
            have HM4 := Aside0.mk HM3.out.pop
            have HB4 := Aside0.mk (hB3.setCell (p := ⟨g, 1, none⟩) HM.out.gB (.slice (some ⟨g4, 0, none⟩) W.length cap4))
            obtain ⟨m0, m1, m2, m3⟩ := HM4.out.cells
            have m4 : (w3.setCell ⟨g, 1, none⟩ (.slice (some ⟨g4, 0, none⟩) W.length cap4)).cell? ⟨gr, c, none⟩ = some (.int .i64 ((x : Int) - 1)) := by
              have := HM4.out.rest
              rw [List.length_set] at this
              rw [this.cellAt c (by omega), cR_get _ c (by rw [List.length_set]; exact hlt), ← HX1.out]
              simp [hlt]
            have m5 : (w3.setCell ⟨g, 1, none⟩ (.slice (some ⟨g4, 0, none⟩) W.length cap4)).frozen? ⟨gr, c, none⟩ = false := by
              have := HM4.out.rest
              rw [List.length_set] at this
              exact this.frozenAt c
            have HM5 := Aside0.mk ((show Mk B g (R.set c (x - 1)) W _ _ (.slice (some ⟨gr, 0, none⟩) (R.set c (x - 1)).length kr) _ _ _ by rw [List.length_set]; exact HM4.out).setRest c x)
            have HB5 := Aside0.mk (HB4.out.setCell (p := ⟨gr, c, none⟩) (own_base HM.out.rest gr rfl) (.int .i64 (x : Int)))
            have HSB := Aside0.mk (set_back HXX.out hlt)
            have HO5 := Aside0.mk (extN_len s (W ++ [c]) (W.length + 1) (R.set c (x - 1)) st HO.out)
            clear hM3 hB3 c0 c1 cr fr d0 d1 e1 e2 k2 k3 m2 m3 el
            go_wp2
            go_region
            clear k0 k1 k4
            go_wp2
            go_roundw
            case rel =>
              have z := HM5.out.drew
              rw [HSB.out, List.length_set] at z
              exact ⟨c + 1, extN s (W ++ [c]) (W.length + 1) (R.set c (x - 1)) st, _, _, by omega, by go_num, ⟨z⟩, ⟨below_drew HB5.out⟩, HO5, HE4⟩
            case measure => simp [intOf]; omega
      · have hce : R.length - c = 0 := by omega
        have hX : st = X := by have := HE.out; rw [hce] at this; exact this
        have HX := Aside0.mk hX
        clear hX hce
        go_wp2
        go_end0
        exact ⟨rfl, _, _, HX.out ▸ HM.out, HB.out⟩
  · have b1 : decide ((p : Int) ≤ (W.length : Int)) = false := decide_eq_false (by omega)
    have hfe : firstN W p = 0 := by unfold firstN; rw [if_neg hpw]
    rw [hfe] at HE
    clear hfe
    go_wp2
    go_loopw [8] (fun v wr => ∃ (c : Nat) (st : List (List Nat) × Bool) (vw' vo' : Value), c ≤ 26 ∧ v = .int .i64 c ∧ Aside0 (Mk B g R W st.1 st.2 vr vw' vo' wr) ∧ Aside0 (Below B w0 wr) ∧ Aside0 (st.1.length ≤ 5000) ∧
        Aside0 ((List.range' c (R.length - c)).foldl (fun st c => if R.getD c 0 = 0 then st else extN s (W ++ [c]) (nextN W p c) (R.set c (R.getD c 0 - 1)) st) st = X)) (fun v _ => (26 - intOf v).toNat)
    case atStart => exact ⟨0, (O, false), _, _, by omega, rfl, HM, HB, ⟨hO⟩, HE⟩
    case round =>
      clear HE HM HB c0 c1 c2 c3
      obtain ⟨c, st, vw', vo', hc, rfl, HM, HB, HO, HE⟩ := hrel
      obtain ⟨Ar, kr, er⟩ := own_slice HM.out.rest
      obtain ⟨Aw', kw', ew'⟩ := own_slice HM.out.word
      subst er ew'
      obtain ⟨c0, c1, c2, c3⟩ := HM.out.cells
      by_cases hlt : c < R.length
      · obtain ⟨gr, cap, ev, _, _⟩ := HM.out.rest.form (by omega)
        obtain ⟨rfl, rfl⟩ : Ar = some ⟨gr, 0, none⟩ ∧ kr = cap := by injection ev with e1 _ e3; exact ⟨e1, e3⟩
        clear ev
        have cr : wr.cell? ⟨gr, c, none⟩ = some (.int .i64 (R.getD c 0 : Int)) := by
          rw [HM.out.rest.cellAt c (by omega), cR_get R c hlt]
        have hx := getD_le HR2.out c
        have hstep : (List.range' c (R.length - c)).foldl (fun st c => if R.getD c 0 = 0 then st else extN s (W ++ [c]) (nextN W p c) (R.set c (R.getD c 0 - 1)) st) st = (List.range' (c + 1) (R.length - (c + 1))).foldl (fun st c => if R.getD c 0 = 0 then st else extN s (W ++ [c]) (nextN W p c) (R.set c (R.getD c 0 - 1)) st) (if R.getD c 0 = 0 then st else extN s (W ++ [c]) (nextN W p c) (R.set c (R.getD c 0 - 1)) st) := by
          rw [show R.length - c = (R.length - (c + 1)) + 1 by omega, List.range'_succ, List.foldl_cons]
        have HE2 := Aside0.mk (hstep.symm.trans HE.out)
        clear hstep HE
        generalize hxx : R.getD c 0 = x at *
        have HXX := Aside0.mk hxx
        clear hxx
        by_cases hz : x = 0
        · subst hz
          have HE3 := HE2.out
          rw [if_pos rfl] at HE3
          have HE4 := Aside0.mk HE3
          clear HE3 HE2
          go_wp2
          go_roundw
          case rel => exact ⟨c + 1, st, _, _, by omega, by go_num, HM, HB, HO, HE4⟩
          case measure => simp [intOf]; omega
        · have bz : ((x : Int) == 0) = false := by rw [beq_eq_false_iff_ne]; omega
          have HE3 := HE2.out
          rw [if_neg hz] at HE3
          have HE4 := Aside0.mk HE3
          have hz1 : 1 ≤ x := by omega
          clear HE3 HE2 hz
          have bl : decide ((W.length : Int) < (p : Int)) = true := decide_eq_true (by omega)
          have hnx : nextN W p c = W.length + 1 := by unfold nextN; rw [if_pos (Or.inl (by omega))]
          rw [hnx] at HE4
          clear hnx
          have HQ2 : 1 ≤ (W.length + 1) ∧ (W.length + 1) ≤ 61 := by omega
          have fr : wr.frozen? ⟨gr, c, none⟩ = false := HM.out.rest.frozenAt c
          have ex : ((x - 1 : Nat) : Int) = (x : Int) - 1 := by omega
          have hM1 := HM.out.setRest c (x - 1)
          rw [ex] at hM1
          obtain ⟨i0, hi, hz0, hz1', hz2⟩ := info_parts info5'
          have HI := Aside0.mk hi
          have HA := Aside0.mk (hM1.alloc (.cells #[.int .u8 (97 + (c : Int))] 5))
          have hsz : wr.heap.size + 1 = ((wr.setCell ⟨gr, c, none⟩ (.int .i64 ((x : Int) - 1))).alloc (.cells #[.int .u8 (97 + (c : Int))] 5)).heap.size := by simp [World.setCell]
          have HSZ := Aside0.mk hsz
          obtain ⟨d0, d1, d2, d3⟩ := hM1.cells
          have HX1 := Aside0.mk ex
          have HBB := Aside0.mk (HB.out.size)
          clear hM1 hi ex d2 d3 c2 c3 hsz
          go_wp2_with (at_builtin; refine wpList_append_lies _ rfl _ _ 22 rfl B 5 i0 (.int .u8 0) 1 1 Try.underlying22 HI.out hz0 hz1' hz2 rfl (by decide) (.slice Aw' W.length kw') W.length (cW W) rfl HA.out.word ⟨wr.heap.size, 0, none⟩ 1 1 [.int .u8 (97 + (c : Int))] rfl rfl ?h1 ?h2 (by decide) ?h3 ?h4 ?h5 (wr.heap.size + 1) ?h6 ?_)
          case h1 =>
            intro j u hj
            match j, hj with
            | 0, hj =>
              simp at hj
              subst hj
              rw [add_plain, show wr.heap.size = (wr.setCell ⟨gr, c, none⟩ (.int .i64 ((x : Int) - 1))).heap.size by simp [World.setCell], cell_of_row _ _ _ _ _ _ (heap_alloc_new _ _)]
              rfl
          case h2 =>
            intro u hu
            simp at hu
            subst hu
            rfl
          case h3 => unfold maxLen; omega
          case h4 => omega
          case h5 => rw [← HSZ.out]; have := HBB.out; omega
          case h6 => exact HSZ.out.symm
          intro g3 cap3 w2 hown hgrow hlies hlt3
          obtain ⟨e1, e2⟩ := HA.out.wordAt hgrow
          have hown2 : w2.ownsRow B 5 1 (.slice (some ⟨g3, 0, none⟩) (W.length + 1) cap3) (W ++ [c]).length (cW (W ++ [c])) := by rw [cW_snoc, List.length_append]; exact hown
          have HM2 := Aside0.mk (HA.out.wordGrown hgrow hown2)
          have hb1 : Below B w0 ((wr.setCell ⟨gr, c, none⟩ (.int .i64 ((x : Int) - 1))).alloc (.cells #[.int .u8 (97 + (c : Int))] 5)) := (HB.out.setCell (p := ⟨gr, c, none⟩) (own_base HM.out.rest gr rfl) _).alloc (by have := HBB.out; simp [World.setCell]; omega) _
          have HB2 := Aside0.mk ((hb1.grown hgrow (by rw [← HSZ.out]; have := HBB.out; omega) (fun k hk => own_base HA.out.word k hk)).setCell (p := ⟨g, 1, none⟩) HM.out.gB (.slice (some ⟨g3, 0, none⟩) (W.length + 1) cap3))
          have HG2 := Aside0.mk hgrow.size
          clear hb1 hown hown2 hgrow hlies hlt3
          go_wp2_with fail
          refine (IH.out (W ++ [c]) (R.set c (x - 1)) (W.length + 1) st.1 st.2 (.slice (some ⟨gr, 0, none⟩) R.length kr) _ vo' B g w0 _ ?i1 HQ2.1 HQ2.2 ?i2 ?i3 ?i4 HO.out HM2.out HB2.out ?i5).mono ?_
          case i1 => rw [List.length_append]; simp; omega
          case i2 => rw [List.length_set]; exact hR
          case i3 =>
            intro y hy
            rcases List.mem_or_eq_of_mem_set hy with h | h
            · exact HR2.out y h
            · omega
          case i4 =>
            intro y hy
            rcases List.mem_append.1 hy with h | h
            · exact HW2.out y h
            · have := List.mem_singleton.1 h; omega
          case i5 => have a := HG2.out; rw [← HSZ.out] at a; have := HBB.out; simp [World.setCell]; omega
          rintro e w3 ⟨rfl, vw3, vo3, hM3, hB3⟩
          obtain ⟨g4, cap4, ev4, hg4, _⟩ := hM3.word.form (by simp)
          have hcap4 : W.length + 1 ≤ cap4 := by
            rcases hM3.word.2 with ⟨_, h0⟩ | ⟨g5, cap5, cur5, e5, _, _, h5, _⟩
            · simp at h0
            · rw [ev4] at e5
              injection e5 with _ _ e6
              rw [e6]
              simpa using h5
          have el : (W ++ [c]).length = W.length + 1 := by simp
          rw [el] at ev4
          subst ev4
          have HM3 := Aside0.mk hM3
          obtain ⟨k0, k1, k2, k3⟩ := hM3.cells
          have k4 := hM3.free 1
          have HM4 := Aside0.mk HM3.out.pop
          have HB4 := Aside0.mk (hB3.setCell (p := ⟨g, 1, none⟩) HM.out.gB (.slice (some ⟨g4, 0, none⟩) W.length cap4))
          obtain ⟨m0, m1, m2, m3⟩ := HM4.out.cells
          have m4 : (w3.setCell ⟨g, 1, none⟩ (.slice (some ⟨g4, 0, none⟩) W.length cap4)).cell? ⟨gr, c, none⟩ = some (.int .i64 ((x : Int) - 1)) := by
            have := HM4.out.rest
            rw [List.length_set] at this
            rw [this.cellAt c (by omega), cR_get _ c (by rw [List.length_set]; exact hlt), ← HX1.out]
            simp [hlt]
          have m5 : (w3.setCell ⟨g, 1, none⟩ (.slice (some ⟨g4, 0, none⟩) W.length cap4)).frozen? ⟨gr, c, none⟩ = false := by
            have := HM4.out.rest
            rw [List.length_set] at this
            exact this.frozenAt c
          have HM5 := Aside0.mk ((show Mk B g (R.set c (x - 1)) W _ _ (.slice (some ⟨gr, 0, none⟩) (R.set c (x - 1)).length kr) _ _ _ by rw [List.length_set]; exact HM4.out).setRest c x)
          have HB5 := Aside0.mk (HB4.out.setCell (p := ⟨gr, c, none⟩) (own_base HM.out.rest gr rfl) (.int .i64 (x : Int)))
          have HSB := Aside0.mk (set_back HXX.out hlt)
          have HO5 := Aside0.mk (extN_len s (W ++ [c]) (W.length + 1) (R.set c (x - 1)) st HO.out)
          clear hM3 hB3 c0 c1 cr fr d0 d1 e1 e2 k2 k3 m2 m3 el
          go_wp2
          go_region
          clear k0 k1 k4
          go_wp2
          go_roundw
          case rel =>
            have z := HM5.out.drew
            rw [HSB.out, List.length_set] at z
            exact ⟨c + 1, extN s (W ++ [c]) (W.length + 1) (R.set c (x - 1)) st, _, _, by omega, by go_num, ⟨z⟩, ⟨below_drew HB5.out⟩, HO5, HE4⟩
          case measure => simp [intOf]; omega
      · have hce : R.length - c = 0 := by omega
        have hX : st = X := by have := HE.out; rw [hce] at this; exact this
        have HX := Aside0.mk hX
        clear hX hce
        go_wp2
        go_end0
        exact ⟨rfl, _, _, HX.out ▸ HM.out, HB.out⟩
end Go.Proofs.Ytpommkpgiogjgaa.X
