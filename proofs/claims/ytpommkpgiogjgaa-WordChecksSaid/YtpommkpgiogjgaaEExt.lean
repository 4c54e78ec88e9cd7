/- (*maker).extend goes through the words that go on from the maker's word, letter by letter, and leaves the maker as it was but for what it has found: for every maker whose rows are its own. -/
import Derived.Test.YtpommkpgiogjgaaX0
import Derived.Test.YtpommkpgiogjgaaEBuild
import Derived.WalkSmall
import Derived.StillTailTactics
import Derived.Deep.RegionLaw
set_option linter.unusedVariables false
set_option linter.unusedSimpArgs false
namespace Go.Proofs.Ytpommkpgiogjgaa.X
open Go.RowKit Go.Proofs.YtpommkpgiogjgaaW.PrintWords Go.Proofs.YtpommkpgiogjgaaW.PrintLast Go.Proofs.YtpommkpgiogjgaaW.PrintMore

/-! ### What it computes -/
/-- letter i of a word -/
abbrev letterAt (w : List Nat) (i : Nat) : Nat := w.getD i 0
/-- the least letter that may come next -/
def firstN (w : List Nat) (p : Nat) : Nat := if p ≤ w.length then letterAt w (w.length - p) else 0
def nextN (w : List Nat) (p c : Nat) : Nat := if w.length < p ∨ c ≠ firstN w p then w.length + 1 else p
/-- one more word -/
def addN (st : List (List Nat) × Bool) (x : List Nat) : List (List Nat) × Bool := if st.1.length = 5000 then (st.1, true) else (st.1 ++ [x], false)
def extN : Nat → List Nat → Nat → List Nat → List (List Nat) × Bool → List (List Nat) × Bool
  | 0, w, p, _, st => if st.2 = true then st else if w.length % p = 0 then addN st w else st
  | s + 1, w, p, rest, st => if st.2 = true then st else
      (List.range' (firstN w p) (rest.length - firstN w p)).foldl (fun st c => if rest.getD c 0 = 0 then st else extN s (w ++ [c]) (nextN w p c) (rest.set c (rest.getD c 0 - 1)) st) st
/-- a word as a text -/
def toB (w : List Nat) : ByteArray := strOfNums (w.map fun (c : Nat) => 97 + (c : Int))

/-! ### The maker in memory -/
def cR (R : List Nat) : List Value := R.map fun (x : Nat) => .int .i64 (x : Int)
def cW (W : List Nat) : List Value := W.map fun (c : Nat) => .int .u8 (97 + (c : Int))
def cO (O : List (List Nat)) : List Value := O.map fun x => .string (toB x)
theorem cR_get (R : List Nat) (i : Nat) (h : i < R.length) : (cR R)[i]? = some (.int .i64 (R.getD i 0 : Int)) := by
  simp [cR, List.getD_eq_getElem?_getD, List.getElem?_eq_getElem h]
theorem cR_set (R : List Nat) (i x : Nat) : (cR R).set i (.int .i64 (x : Int)) = cR (R.set i x) := by simp [cR, List.map_set]
theorem cW_get (W : List Nat) (i : Nat) (h : i < W.length) : (cW W)[i]? = some (.int .u8 (97 + (W.getD i 0 : Int))) := by
  simp [cW, List.getD_eq_getElem?_getD, List.getElem?_eq_getElem h]
theorem cW_snoc (W : List Nat) (c : Nat) : cW (W ++ [c]) = cW W ++ [.int .u8 (97 + (c : Int))] := by simp [cW]
theorem cO_snoc (O : List (List Nat)) (x : List Nat) : cO (O ++ [x]) = cO O ++ [.string (toB x)] := by simp [cO]
theorem cR_length (R : List Nat) : (cR R).length = R.length := by simp [cR]
theorem cW_length (W : List Nat) : (cW W).length = W.length := by simp [cW]
theorem cO_length (O : List (List Nat)) : (cO O).length = O.length := by simp [cO]
structure Mk (B g : Nat) (R W : List Nat) (O : List (List Nat)) (full : Bool) (vr vw vo : Value) (w : World) : Prop where
  gB : B ≤ g
  blk : w.heap[g]? = some (.cells #[vr, vw, vo, .bool full] 83 (0, 0))
  rest : w.ownsRow B 3 1 vr R.length (cR R)
  word : w.ownsRow B 5 1 vw W.length (cW W)
  out : w.ownsRow B 9 1 vo O.length (cO O)
section
variable {B g : Nat} {R W : List Nat} {O : List (List Nat)} {full : Bool} {vr vw vo : Value} {w : World}
theorem own_ne2 {size n b : Nat} {e T : TypeId} {v : Value} {xs : List Value} {cs : Array Value} {fr : Nat × Nat} (hown : w.ownsRow B e size v n xs) (hb : w.heap[b]? = some (.cells cs T fr)) (hTe : T ≠ e) : v.ownBlock ≠ some b := by
  rcases hown.2 with ⟨rfl, _⟩ | ⟨g, cap, cur, rfl, _, hg, _⟩
  · simp [Value.ownBlock]
  · intro h
    simp only [Value.ownBlock, Option.some.injEq] at h
    subst h
    rw [hg] at hb
    simp only [Option.some.injEq, Obj.cells.injEq] at hb
    exact hTe hb.2.1.symm
theorem grown_set (w : World) (p : Addr) (u : Value) : w.grownBy (w.setCell p u) (some p.block) :=
  ⟨rfl, rfl, rfl, by simp [World.setCell], fun k _ hk => Below.heap_setCell _ _ _ _ (fun e => hk (by simp [e]))⟩
theorem Mk.lt (h : Mk B g R W O full vr vw vo w) : g < w.heap.size := (Array.getElem?_eq_some_iff.1 h.blk).1
theorem Mk.drewN (h : Mk B g R W O full vr vw vo w) (n : Nat) : Mk B g R W O full vr vw vo (w.drewN n) := ⟨h.gB, h.blk, h.rest, h.word, h.out⟩
theorem Mk.alloc (h : Mk B g R W O full vr vw vo w) (o : Obj) : Mk B g R W O full vr vw vo (w.alloc o) :=
  ⟨h.gB, (Below.heap_alloc w o g h.lt).trans h.blk, h.rest.alloc _, h.word.alloc _, h.out.alloc _⟩
/-- one of the maker's own four cells -/
theorem Mk.field (h : Mk B g R W O full vr vw vo w) (i : Nat) (u : Value) : (w.setCell ⟨g, i, none⟩ u).heap[g]? = some (.cells ((#[vr, vw, vo, .bool full] : Array Value).setIfInBounds i u) 83 (0, 0)) ∧
    (w.setCell ⟨g, i, none⟩ u).ownsRow B 3 1 vr R.length (cR R) ∧ (w.setCell ⟨g, i, none⟩ u).ownsRow B 5 1 vw W.length (cW W) ∧
    (w.setCell ⟨g, i, none⟩ u).ownsRow B 9 1 vo O.length (cO O) :=
  ⟨heap_setCell_same w g i _ _ u h.blk, h.rest.kept (grown_set w ⟨g, i, none⟩ u) (.inr (own_ne2 h.rest h.blk (by decide))), h.word.kept (grown_set w ⟨g, i, none⟩ u) (.inr (own_ne2 h.word h.blk (by decide))), h.out.kept (grown_set w ⟨g, i, none⟩ u) (.inr (own_ne2 h.out h.blk (by decide)))⟩
theorem Mk.drew (h : Mk B g R W O full vr vw vo w) : Mk B g R W O full vr vw vo w.drew := ⟨h.gB, h.blk, h.rest, h.word, h.out⟩
theorem Mk.outAt {w1 : World} (h : Mk B g R W O full vr vw vo w) (hg : w.grownBy w1 vo.ownBlock) : w1.cell? ⟨g, 2, none⟩ = some vo ∧ w1.frozen? ⟨g, 2, none⟩ = false := by
  have hb : w1.heap[g]? = some (.cells #[vr, vw, vo, .bool full] 83 (0, 0)) := (hg.block g h.lt (fun e => own_ne2 h.out h.blk (by decide) e.symm)).trans h.blk
  exact ⟨by rw [cell_of_row _ _ _ _ _ _ hb]; rfl, frozen_of_row _ _ _ _ _ hb⟩
theorem Mk.wordAt {w1 : World} (h : Mk B g R W O full vr vw vo w) (hg : w.grownBy w1 vw.ownBlock) : w1.cell? ⟨g, 1, none⟩ = some vw ∧ w1.frozen? ⟨g, 1, none⟩ = false := by
  have hb : w1.heap[g]? = some (.cells #[vr, vw, vo, .bool full] 83 (0, 0)) := (hg.block g h.lt (fun e => own_ne2 h.word h.blk (by decide) e.symm)).trans h.blk
  exact ⟨by rw [cell_of_row _ _ _ _ _ _ hb]; rfl, frozen_of_row _ _ _ _ _ hb⟩
theorem Mk.setFull (h : Mk B g R W O full vr vw vo w) (b : Bool) : Mk B g R W O b vr vw vo (w.setCell ⟨g, 3, none⟩ (.bool b)) :=
  let ⟨h1, h2, h3, h4⟩ := h.field 3 (.bool b)
  ⟨h.gB, h1, h2, h3, h4⟩
/-- the word's row is another one: appended to, and laid into its field -/
theorem Mk.wordGrown {w1 : World} {v' : Value} {W' : List Nat} (h : Mk B g R W O full vr vw vo w) (hg : w.grownBy w1 vw.ownBlock) (hown : w1.ownsRow B 5 1 v' W'.length (cW W')) : Mk B g R W' O full vr v' vo (w1.setCell ⟨g, 1, none⟩ v') := by
  have hb : w1.heap[g]? = some (.cells #[vr, vw, vo, .bool full] 83 (0, 0)) := (hg.block g h.lt (fun e => own_ne2 h.word h.blk (by decide) e.symm)).trans h.blk
  have h1 : w1.ownsRow B 3 1 vr R.length (cR R) := own_other h.rest hg (own_type_ne h.rest h.word (by decide))
  have h2 : w1.ownsRow B 9 1 vo O.length (cO O) := own_other h.out hg (own_type_ne h.out h.word (by decide))
  exact ⟨h.gB, heap_setCell_same w1 g 1 _ _ v' hb, h1.kept (grown_set w1 ⟨g, 1, none⟩ v') (.inr (own_ne2 h1 hb (by decide))), hown.kept (grown_set w1 ⟨g, 1, none⟩ v') (.inr (own_ne2 hown hb (by decide))), h2.kept (grown_set w1 ⟨g, 1, none⟩ v') (.inr (own_ne2 h2 hb (by decide)))⟩
theorem Mk.outGrown {w1 : World} {v' : Value} {O' : List (List Nat)} (h : Mk B g R W O full vr vw vo w) (hg : w.grownBy w1 vo.ownBlock) (hown : w1.ownsRow B 9 1 v' O'.length (cO O')) : Mk B g R W O' full vr vw v' (w1.setCell ⟨g, 2, none⟩ v') := by
  have hb : w1.heap[g]? = some (.cells #[vr, vw, vo, .bool full] 83 (0, 0)) := (hg.block g h.lt (fun e => own_ne2 h.out h.blk (by decide) e.symm)).trans h.blk
  have h1 : w1.ownsRow B 3 1 vr R.length (cR R) := own_other h.rest hg (own_type_ne h.rest h.out (by decide))
  have h2 : w1.ownsRow B 5 1 vw W.length (cW W) := own_other h.word hg (own_type_ne h.word h.out (by decide))
  exact ⟨h.gB, heap_setCell_same w1 g 2 _ _ v' hb, h1.kept (grown_set w1 ⟨g, 2, none⟩ v') (.inr (own_ne2 h1 hb (by decide))), h2.kept (grown_set w1 ⟨g, 2, none⟩ v') (.inr (own_ne2 h2 hb (by decide))), hown.kept (grown_set w1 ⟨g, 2, none⟩ v') (.inr (own_ne2 hown hb (by decide)))⟩
theorem Mk.cells (h : Mk B g R W O full vr vw vo w) : w.cell? ⟨g, 0, none⟩ = some vr ∧ w.cell? ⟨g, 1, none⟩ = some vw ∧ w.cell? ⟨g, 2, none⟩ = some vo ∧ w.cell? ⟨g, 3, none⟩ = some (.bool full) := by
  refine ⟨?_, ?_, ?_, ?_⟩ <;> rw [cell_of_row _ _ _ _ _ _ h.blk] <;> rfl
theorem Mk.free (h : Mk B g R W O full vr vw vo w) (i : Nat) : w.frozen? ⟨g, i, none⟩ = false := frozen_of_row _ _ _ _ _ h.blk
/-- a number of the rest is another one -/
theorem Mk.setRest {gr cap : Nat} (h : Mk B g R W O full (.slice (some ⟨gr, 0, none⟩) R.length cap) vw vo w) (c x : Nat) : Mk B g (R.set c x) W O full (.slice (some ⟨gr, 0, none⟩) R.length cap) vw vo (w.setCell ⟨gr, c, none⟩ (.int .i64 (x : Int))) := by
  have hne : gr ≠ g := fun e => own_ne2 h.rest h.blk (by decide) (by rw [e]; rfl)
  have hs := (h.rest.stored c (.int .i64 (x : Int)))
  refine ⟨h.gB, (Below.heap_setCell _ _ _ _ (Ne.symm hne)).trans h.blk, ?_, h.word.kept (grown_set w ⟨gr, c, none⟩ _) ?_, h.out.kept (grown_set w ⟨gr, c, none⟩ _) ?_⟩
  · rw [List.length_set, ← cR_set]
    exact hs.1
  · exact own_type_ne h.word h.rest (by decide)
  · exact own_type_ne h.out h.rest (by decide)
end
theorem infoS : (Try.prog.info? 9).map (fun i => (i.zero, i.size, i.bytes)) = some (some (.string ⟨#[]⟩), 1, 16) := by kernel_rfl
set_option maxHeartbeats 1000000 in
set_option maxRecDepth 100000 in
theorem extend_full {n p : Int} {B g : Nat} {R W : List Nat} {O : List (List Nat)} {vr vw vo : Value} {w : World} (h : Mk B g R W O true vr vw vo w) :
    Calls Try.prog 39 #[.pointer (some ⟨g, 0, none⟩), .int .i64 n, .int .i64 p] w fun e w' => e = .returned (.tuple #[]) ∧ w = w' := by
  obtain ⟨c0, c1, c2, c3⟩ := h.cells
  clear h
  go_enter Try.func39, Try.ntmps39
  go_wp2
  refine bodyPost_ret (results_none rfl _ _ _) rfl ⟨rfl, rfl⟩
set_option maxHeartbeats 4000000 in
set_option maxRecDepth 100000 in
theorem extend_end {n p : Nat} {B g : Nat} {R W : List Nat} {O : List (List Nat)} {vr vw vo : Value} {w0 w : World} (hn : n ≤ 60) (hW : W.length = n) (hp : 1 ≤ p) (hp2 : p ≤ 61) (hO : O.length ≤ 5000) (h : Mk B g R W O false vr vw vo w) (hB : Below B w0 w) (hBw : B ≤ w.heap.size) :
    Calls Try.prog 39 #[.pointer (some ⟨g, 0, none⟩), .int .i64 (n : Int), .int .i64 (p : Int)] w fun e w' => e = .returned (.tuple #[]) ∧ ∃ vw' vo', Mk B g R W (extN 0 W p R (O, false)).1 (extN 0 W p R (O, false)).2 vr vw' vo' w' ∧ Below B w0 w' := by
  obtain ⟨c0, c1, c2, c3⟩ := h.cells
  obtain ⟨Aw, kw, ew⟩ := own_slice h.word
  obtain ⟨Ao, ko, eo⟩ := own_slice h.out
  subst ew eo
  subst hW
  have HM := Aside0.mk h
  have HB := Aside0.mk hB
  clear h hB
  by_cases hd : W.length % p = 0
  · have b1 : (((W.length : Int) % (p : Int)) == 0) = true := by rw [beq_iff_eq]; exact_mod_cast hd
    by_cases hf : O.length = 5000
    · have b2 : ((O.length : Int) == 5000) = true := by rw [beq_iff_eq]; omega
      have he : extN 0 W p R (O, false) = (O, true) := by simp [extN, hd, addN, hf]
      have HE := Aside0.mk he
      have f3 := HM.out.free 3
      clear he hd hf
      go_enter Try.func39, Try.ntmps39
      go_wp2
      refine bodyPost_ret (results_none rfl _ _ _) rfl ⟨rfl, ?_⟩
      rw [HE.out]
      exact ⟨_, _, HM.out.setFull true, HB.out.setCell (p := ⟨g, 3, none⟩) HM.out.gB _⟩
    · have b2 : ((O.length : Int) == 5000) = false := by rw [beq_eq_false_iff_ne]; omega
      have he : extN 0 W p R (O, false) = (O ++ [W], false) := by simp [extN, hd, addN, hf]
      have HE := Aside0.mk he
      have f2 := HM.out.free 2
      have hO2 : O.length ≤ 4999 := by omega
      clear he hd hf
      obtain ⟨i0, hi, hz0, hz1, hz2⟩ := info_parts infoS
      have HI := Aside0.mk hi
      clear hi
      have hcv : (convert 22 9 (.slice Aw W.length kw)).run Try.prog w.drew = .ok (.string (toB W)) w.drew := by
        have := own_string (P := Try.prog) (w := w.drew) (src := 22) (dst := 9) (e := 5) (xs := W.map fun (c : Nat) => 97 + (c : Int)) Try.underlying22 Try.underlying5 Try.underlying9 (by simpa [nums, cW, Function.comp_def] using HM.out.word.drew)
        exact this
      go_enter Try.func39, Try.ntmps39
      go_wp2
      have ca := (HM.out.alloc (.cells #[.string (toB W)] 9)).cells.2.2.1
      have HA := Aside0.mk (HM.out.drew.alloc (.cells #[.string (toB W)] 9))
      go_region_law (first | (refine step_append_lies _ rfl _ _ 40 rfl B 9 i0 (.string ⟨#[]⟩) 1 16 Try.underlying40 HI.out hz0 hz1 hz2 rfl (by decide) (.slice Ao O.length ko) O.length (cO O) rfl HA.out.out ⟨w.heap.size, 0, none⟩ 1 1 [.string (toB W)] rfl rfl (cell_one_new _ _ _) (by intro u hu; simp at hu; subst hu; rfl) (by decide) (by unfold maxLen; omega) (by omega) (by simp; omega) (w.heap.size + 1) (by simp) ?_; intro g2 cap w2 hown hgrow hlies hlt; obtain ⟨d2, e2⟩ := HA.out.outAt hgrow))
      all_goals
        have hown2 : w2.ownsRow B 9 1 (.slice (some ⟨g2, 0, none⟩) (O.length + 1) cap) (O ++ [W]).length (cO (O ++ [W])) := by rw [cO_snoc, List.length_append]; exact hown
        have HN := Aside0.mk (HA.out.outGrown hgrow hown2)
        have HB2 := Aside0.mk ((((below_drew HB.out).alloc (by simpa using hBw) _).grown hgrow (by simp; omega) (fun k hk => own_base HA.out.out k hk)).setCell (p := ⟨g, 2, none⟩) HM.out.gB (.slice (some ⟨g2, 0, none⟩) (O.length + 1) cap))
        clear hown hown2 hgrow hlies hlt d2 e2
        go_wp2
        refine bodyPost_ret (results_none rfl _ _ _) rfl ⟨rfl, ?_⟩
        rw [HE.out]
        exact ⟨_, _, HN.out, HB2.out⟩
  · have b1 : (((W.length : Int) % (p : Int)) == 0) = false := by rw [beq_eq_false_iff_ne]; intro h; exact hd (by exact_mod_cast h)
    have he : extN 0 W p R (O, false) = (O, false) := by simp [extN, hd]
    have HE := Aside0.mk he
    clear he hd
    go_enter Try.func39, Try.ntmps39
    go_wp2
    refine bodyPost_ret (results_none rfl _ _ _) rfl ⟨rfl, ?_⟩
    rw [HE.out]
    exact ⟨_, _, HM.out, HB.out⟩
end Go.Proofs.Ytpommkpgiogjgaa.X
