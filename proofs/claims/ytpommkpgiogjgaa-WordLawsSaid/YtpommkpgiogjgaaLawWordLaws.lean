-- The row of WordLaws, over one struct of a slice of bytes and a byte.
import Derived.Test.YtpommkpgiogjgaaRows
import Derived.Test.YtpommkpgiogjgaaPureLaws
import Derived.WalkKit
import Derived.ProofKit
import Derived.OpenShut
import Derived.ChangeOld
import Derived.ChangeSame
import Derived.ChangeSlices
import Derived.Below
import Derived.SizedLaws
namespace Go.Proofs.Ytpommkpgiogjgaa.wordLaws
open Go.ChangeShapes Go.WideShapes Go.ChangeAt Go.RowKit
set_option linter.unusedVariables false
theorem two_fields {H : Type} {enc : TypeId × Value → H} {P : Program} {w : World} {base : Nat} {spare : Nat → Bool} {held : Bool} {t s u : TypeId} {f0 f1 : Field} {fuel : Nat} {cs : Array Value} {x : DataW H × List MemPlace}
    (ht : P.underlying t = some (.struct #[f0, f1])) (h : DataW.trod enc P w base spare held fuel t (Value.cells (.agg cs)).toList = some x) (hc : cs.size = 2) (e0 : f0.type = s) (e1 : f1.type = u) (o0 : f0.offset = 0) (o1 : f1.offset = 1) (c0 : P.cellsOf s = 1) (c1 : P.cellsOf u = 1) :
    ∃ u0 u1 y0 y1 n, cs = #[u0, u1] ∧ DataW.trod enc P w base spare held n s [u0] = some y0 ∧ DataW.trod enc P w base spare held n u [u1] = some y1 := by
  obtain ⟨y0, y1, n, _, _, g0, g1⟩ := trod_struct2 ht h
  subst e0 e1
  rw [o0, c0] at g0
  rw [o1, c1] at g1
  obtain ⟨l⟩ := cs
  match l, hc with
  | [u0, u1], _ => exact ⟨u0, u1, y0, y1, n, rfl, by simpa [Value.cells] using g0, by simpa [Value.cells] using g1⟩
theorem own : ownKnob Try.prog.godebug = none := by kernel_rfl
theorem laidOut : laidOutB Try.prog = true := by kernel_rfl
theorem cells_slice : Try.prog.cellsOf 22 = 1 := by kernel_rfl
theorem cells_byte : Try.prog.cellsOf 5 = 1 := by kernel_rfl
theorem cells_both : Try.prog.cellsOf 24 = 2 := by kernel_rfl
set_option maxHeartbeats 4000000 in
set_option maxRecDepth 100000 in
theorem open_letters {H : Type} {enc : TypeId × Value → H} {W : World} {v : Value} {d : DataW H} {p : List MemPlace} (hv : Value.okWide Try.prog W .any 0 24 v) (h0 : DataW.Trod enc Try.prog W 0 (fun _ => true) true 24 v d p) :
    ∃ (a0 : Option Addr) (len0 cap0 : Nat) (z0 : List Int) (m : Int), v = .agg #[.slice a0 len0 cap0, .int .u8 m] ∧
      ((a0 = none ∧ len0 = 0 ∧ cap0 = 0 ∧ z0 = []) ∨ ∃ x, a0 = some x ∧ len0 ≤ cap0 ∧ cap0 ≤ maxLen ∧ z0.length = cap0 ∧ (∀ i, i < z0.length → W.cell? (x.add i) = some (.int .u8 (z0.getD i 0))) ∧ ∀ n ∈ z0, (Lit.int .u8 n).wf = true) ∧
      (Lit.int .u8 m).wf = true := by
  obtain ⟨cs, rfl, hcs⟩ := okWide_struct Try.underlying24 hv
  rw [cells_both] at hcs
  obtain ⟨fuel, hf⟩ := h0
  obtain ⟨u0, u1, y0, y1, n, rfl, g0, g1⟩ := two_fields Try.underlying24 hf hcs rfl rfl rfl rfl cells_slice cells_byte
  obtain ⟨m, hm, _, wm⟩ := DataW.trod_int Try.underlying5 g1
  simp at hm
  subst hm
  rcases open_ints Try.underlying22 Try.underlying5 (by kernel_rfl) g0 with ⟨hcs, _⟩ | ⟨x, l, c, zs, hcs, _, hl, hm, hz, _, hcell, hwz⟩
  · simp at hcs
    subst hcs
    exact ⟨none, 0, 0, [], m, rfl, .inl ⟨rfl, rfl, rfl, rfl⟩, wm⟩
  · simp at hcs
    subst hcs
    exact ⟨some x, l, c, zs, m, rfl, .inr ⟨_, rfl, hl, hm, by simpa using hz, hcell, hwz⟩, wm⟩
set_option maxHeartbeats 4000000 in
set_option maxRecDepth 100000 in
theorem lifted (os : Os) (started : os.Started) (H : Type) (enc : TypeId × Value → H) :
    ReturnsInHanded {} Try.checked os 8 .any (Rows.wordLawsSpec.pre6 enc Try.prog Try.f8 Rows.wordLawsRow.domain false) (Rows.wordLawsSpec.post enc Try.prog Try.f8 false true false false) := by
  refine returnsInHanded_of_change_sized (C := Try.checked) own started (by kernel_rfl) Try.func8
    (ChangeSpec.witness6 (enc := enc) (C := Try.checked) false ⟨#[], #[.agg #[.slice none 0 0, .int .u8 0], .int .i8 0, .int .i8 0], []⟩ 8 (by kernel_rfl) (by kernel_rfl) (by kernel_rfl) (by kernel_rfl)) ?_
  intro W base args ds gs before hval0 hW hcnd hsz0 _
  have hval : ∀ (j : Nat) t v, Try.f8.params[j]? = some t → args[j]? = some v → Value.okWide Try.prog W .any base t v := hval0
  have hW' := hW
  obtain ⟨p, q, hA0, hV, rfl, hfz, hnd⟩ := hW
  have hA : DataW.TrodAll enc Try.prog W 0 (fun _ => true) true Try.f8.params.toList args.toList ds p := hA0
  rw [Try.params8] at hA hval
  obtain ⟨v0, vs0, d0, ds0, p0, q0, hargs, rfl, rfl, h0, r0⟩ := trodAll_cons hA
  obtain ⟨v1, vs1, d1, ds1, p1, q1, rfl, rfl, rfl, h1, r1⟩ := trodAll_cons r0
  obtain ⟨v2, vs2, d2, ds2, p2, q2, rfl, rfl, rfl, h2, r2⟩ := trodAll_cons r1
  obtain ⟨rfl, rfl, rfl⟩ := trodAll_nil r2
  obtain rfl : args = #[v0, v1, v2] := by cases args; simp_all
  obtain ⟨rfl, rfl⟩ := trodVars_none hV
  have k0 := h0
  have lt0 : ∀ x ∈ p0, x.block < W.heap.size := by obtain ⟨m, hm⟩ := k0; exact DataW.trod_lt m _ _ _ hm
  obtain ⟨a0, len0, cap0, z0, m0, rfl, w0, wm0⟩ := open_letters (hval 0 24 v0 rfl rfl) h0
  obtain ⟨a1, rfl, rfl, rfl, w1⟩ := open_int Try.underlying55 (hval 1 55 v1 rfl rfl) h1
  obtain ⟨a2, rfl, rfl, rfl, w2⟩ := open_int Try.underlying55 (hval 2 55 v2 rfl rfl) h2
  clear hA0 hval0 hsz0
  refine (X.walk_WordLaws a0 len0 cap0 z0 m0 a1 a2 W w0 wm0 w1 w2).mono fun e W' ⟨he, bel⟩ => ?_
  subst he
  exact ⟨_, rfl, _, _, _, [], _, [], hW', trodAll_mk1 (shut_bool Try.underlying4 _), (trodAll_cons_mk (Below.trod laidOut (by kernel_rfl) (of_decide_eq_true (by kernel_rfl)) k0 bel lt0) (trodAll_cons_mk (shut_int Try.underlying55 w1) (trodAll_cons_mk (shut_int Try.underlying55 w2) trodAll_mk0))), rfl, bel.frame _, fun h => by cases h⟩
theorem over : Rows.wordLawsRow.holds Try.pinned (OpenSpec.ofChange Rows.wordLawsSpec) :=
  OpenClaim.holds_of_wide 8 Try.f8 rfl rfl rfl rfl rfl rfl rfl ⟨rfl, rfl, rfl, rfl, rfl⟩ rfl rfl rfl rfl rfl (by kernel_rfl) Try.func8 (by kernel_rfl)
    (of_decide_eq_true (by kernel_rfl)) (by unfold Func.isWrapper; first | (rw [if_pos (by decide +kernel)]; kernel_rfl) | (rw [if_neg (by decide +kernel)]; exact ⟨rfl, rfl⟩))
    (fun os started H enc _ => lifted os started H enc)
theorem proved : Rows.WordLawsSaid := over
end Go.Proofs.Ytpommkpgiogjgaa.wordLaws
namespace Go.Proofs.Ytpommkpgiogjgaa
/-- The row, under a short name, for the claim. -/
theorem wordLaws_holds : Rows.WordLawsSaid := wordLaws.proved
end Go.Proofs.Ytpommkpgiogjgaa
