/- word.Balanced returns whether a word is balanced, with the first two parts that tell otherwise, or the first error: for all words whose check tells an answer. -/
import Derived.Test.YtpommkpgiogjgaaETally
import Derived.Great.BuildSlice
set_option linter.unusedVariables false
set_option linter.unusedSimpArgs false
namespace Go.Proofs.Ytpommkpgiogjgaa.X
open Go.RowKit Go.Proofs.YtpommkpgiogjgaaW.PrintWords Go.Proofs.YtpommkpgiogjgaaW.PrintLast Go.Proofs.YtpommkpgiogjgaaW.PrintMore

/-! ### The search in plain words -/
def badB (s : ByteArray) (n i j c : Nat) : Bool := decide ((cntN s i n c : Int) - (cntN s j n c : Int) > 1) || decide ((cntN s i n c : Int) - (cntN s j n c : Int) < -1)
abbrev Wit := Option (Nat × Nat × Nat × Nat)
def wC (s : ByteArray) (n i j c : Nat) : Wit := (List.range' c (26 - c)).findSome? fun c => if badB s n i j c = true then some (n, i, j, c) else none
def wJ (s : ByteArray) (n i j : Nat) : Wit := (List.range' j (s.size - j)).findSome? fun j => wC s n i j 0
def wI (s : ByteArray) (n i : Nat) : Wit := (List.range' i (s.size - i)).findSome? fun i => wJ s n i (i + 1)
def wN (s : ByteArray) (n : Nat) : Wit := (List.range' n (s.size - n)).findSome? fun n => wI s n 0
/-- the first length, places and letter that tell that the word isn't balanced -/
def wit (s : ByteArray) : Wit := wN s 1
theorem find_step {α : Type} (f : Nat → Option α) (x m : Nat) (h : x < m) : (List.range' x (m - x)).findSome? f = (f x).or ((List.range' (x + 1) (m - (x + 1))).findSome? f) := by
  rw [show m - x = (m - (x + 1)) + 1 by omega, List.range'_succ, List.findSome?_cons]
  cases f x <;> rfl
theorem find_end {α : Type} (f : Nat → Option α) (x m : Nat) (h : m ≤ x) : (List.range' x (m - x)).findSome? f = none := by
  rw [show m - x = 0 by omega]; rfl
theorem wC_bad {s : ByteArray} {n i j c : Nat} (h : c < 26) (hb : badB s n i j c = true) : wC s n i j c = some (n, i, j, c) := by
  unfold wC; rw [find_step _ _ _ h, if_pos hb]; rfl
theorem wC_next {s : ByteArray} {n i j c : Nat} (h : c < 26) (hb : badB s n i j c = false) : wC s n i j c = wC s n i j (c + 1) := by
  unfold wC; rw [find_step _ _ _ h, if_neg (by rw [hb]; simp)]; rfl
theorem wC_end (s : ByteArray) (n i j : Nat) : wC s n i j 26 = none := find_end _ _ _ (Nat.le_refl _)
theorem wJ_next {s : ByteArray} {n i j : Nat} (h : j < s.size) : wJ s n i j = (wC s n i j 0).or (wJ s n i (j + 1)) := find_step _ _ _ h
theorem wJ_end {s : ByteArray} {n i j : Nat} (h : s.size ≤ j) : wJ s n i j = none := find_end _ _ _ h
theorem wI_next {s : ByteArray} {n i : Nat} (h : i < s.size) : wI s n i = (wJ s n i (i + 1)).or (wI s n (i + 1)) := find_step _ _ _ h
theorem wI_end {s : ByteArray} {n i : Nat} (h : s.size ≤ i) : wI s n i = none := find_end _ _ _ h
theorem wN_next {s : ByteArray} {n : Nat} (h : n < s.size) : wN s n = (wI s n 0).or (wN s (n + 1)) := find_step _ _ _ h
theorem wN_end {s : ByteArray} {n : Nat} (h : s.size ≤ n) : wN s n = none := find_end _ _ _ h

/-- the letter with a number, as a text -/
def letterB (c : Nat) : ByteArray := ⟨#[UInt8.ofNat (97 + c)]⟩
def balF (s : ByteArray) : Bool × Int × Int × Int × ByteArray × Int :=
  match wit s with
  | none => (true, 0, 0, 0, ⟨#[]⟩, 0)
  | some (n, i, j, c) => (false, (n : Int), (i : Int), (j : Int), (letterB c), 0)
def word_Balanced.f (k : Nat) (a0 : ByteArray) : Option (Bool × Int × Int × Int × ByteArray × Int) :=
  (word_Check.f k a0).bind fun t0 => if t0 = 0 then some (balF a0) else some (false, 0, 0, 0, ⟨#[]⟩, t0)
theorem word_Balanced.mono : ∀ a0 k, LeO (word_Balanced.f k a0) (word_Balanced.f (k + 1) a0) := by
  intro a0 k
  unfold word_Balanced.f
  exact LeO.bind (word_Check.mono _ _) (fun _ => LeO.refl _)

/-! ### Memory -/
/-- the rows of numbers as cells, one behind the other -/
def cellsP (s : ByteArray) (n m : Nat) : List Value := (List.range m).flatMap fun i => (tl26 s i n).map (Value.int .i64)
theorem cellsP_length (s : ByteArray) (n m : Nat) : (cellsP s n m).length = m * 26 := by
  unfold cellsP
  induction m with
  | zero => rfl
  | succ m ih => rw [List.range_succ, List.flatMap_append, List.length_append, ih]; simp [tl26_length]; omega
theorem cellsP_succ (s : ByteArray) (n m : Nat) : cellsP s n (m + 1) = cellsP s n m ++ (tl26 s m n).map (Value.int .i64) := by
  unfold cellsP
  rw [List.range_succ, List.flatMap_append]
  simp
theorem cellsP_get (s : ByteArray) (n : Nat) : ∀ (m i c : Nat), i < m → c < 26 → (cellsP s n m)[i * 26 + c]? = some (.int .i64 (cntN s i n c : Int)) := by
  intro m
  induction m with
  | zero => intro i c h; omega
  | succ m ih =>
    intro i c hi hc
    rw [cellsP_succ]
    rcases Nat.lt_or_ge i m with h | h
    · rw [List.getElem?_append_left (by rw [cellsP_length]; omega)]
      exact ih i c h hc
    · obtain rfl : i = m := by omega
      rw [List.getElem?_append_right (by rw [cellsP_length]; omega), cellsP_length, show i * 26 + c - i * 26 = c by omega, List.getElem?_map, tl26_get _ _ _ _ hc]
      rfl
theorem box_aux (W : World) (x0 x1 x2 x3 x4 x5 x6 x7 x8 x9 x10 x11 x12 x13 x14 x15 x16 x17 x18 x19 x20 x21 x22 x23 x24 x25 : Int) :
    (Instr.buildSlice 69 1 #[(0, .agg (arrV [x0, x1, x2, x3, x4, x5, x6, x7, x8, x9, x10, x11, x12, x13, x14, x15, x16, x17, x18, x19, x20, x21, x22, x23, x24, x25]))]).run Try.prog W = .ok (.slice (some ⟨W.heap.size, 0, none⟩) 1 1) (W.alloc (.cells (arrV [x0, x1, x2, x3, x4, x5, x6, x7, x8, x9, x10, x11, x12, x13, x14, x15, x16, x17, x18, x19, x20, x21, x22, x23, x24, x25]) 70)) := by
  kernel_rfl
theorem run_box26 (xs : List Int) (h : xs.length = 26) (W : World) :
    (Instr.buildSlice 69 1 #[(0, .agg (arrV xs))]).run Try.prog W = .ok (.slice (some ⟨W.heap.size, 0, none⟩) 1 1) (W.alloc (.cells (arrV xs) 70)) := by
  match xs, h with
  | [x0, x1, x2, x3, x4, x5, x6, x7, x8, x9, x10, x11, x12, x13, x14, x15, x16, x17, x18, x19, x20, x21, x22, x23, x24, x25], _ => exact box_aux W x0 x1 x2 x3 x4 x5 x6 x7 x8 x9 x10 x11 x12 x13 x14 x15 x16 x17 x18 x19 x20 x21 x22 x23 x24 x25
theorem wpList_box26 {ops : Array Oper} {rest : List Oper} {o : Oper} {a : Act} {w : World} {Q : Exit → Act → World → Prop} (hg : o.guard = none) (x : Operand) (ho : o.op = .buildSlice 69 1 #[(0, x)])
    (xs : List Int) (hx : a.eval x = .agg (arrV xs)) (hl : xs.length = 26)
    (h : wpList Try.prog ops Q rest (a.put o.dst (.slice (some ⟨w.heap.size, 0, none⟩) 1 1)) (w.alloc (.cells (arrV xs) 70))) : wpList Try.prog ops Q (o :: rest) a w :=
  wpList_plain hg fun _ hK => by
    unfold Oper.wp execOp
    simp only [ho, List.map_toArray, List.map_cons, List.map_nil, hx, Sem.run_bind, run_box26 xs hl, Result.andThen_ok]
    exact hK _ _ h
/-- the block of the result's witness, still at its zero value -/
def XBlk (B : Nat) (wr : World) : Prop := wr.heap[B]? = some (.cells #[.int .i64 0, .int .i64 0, .int .i64 0, .string ⟨#[]⟩] 28 (0, 0))
/-- the rows of the parts -/
def PRow (s : ByteArray) (n m : Nat) (B : Nat) (v : Value) (wr : World) : Prop := wr.ownsRow B 70 26 v m (cellsP s n m)
def zero26 : Value := .agg (arrV (List.replicate 26 0))
theorem info26 : (Try.prog.info? 70).map (fun i => (i.zero, i.size, i.bytes)) = some (some zero26, 26, 208) := by kernel_rfl
structure Info26 (it : TypeInfo) : Prop where
  at_ : Try.prog.info? 70 = some it
  zero_ : it.zero = some zero26
  size_ : it.size = 26
  bytes_ : it.bytes = 208
theorem own_ne {w : World} {B size n : Nat} {e T : TypeId} {v : Value} {xs : List Value} {b : Nat} {cs : Array Value} {fr : Nat × Nat} (hown : w.ownsRow B e size v n xs) (hb : w.heap[b]? = some (.cells cs T fr)) (hTe : T ≠ e) : some b ≠ v.ownBlock := by
  rcases hown.2 with ⟨rfl, _⟩ | ⟨g, cap, cur, rfl, _, hg, _⟩
  · simp [Value.ownBlock]
  · intro h
    simp only [Value.ownBlock, Option.some.injEq] at h
    subst h
    rw [hg] at hb
    simp only [Option.some.injEq, Obj.cells.injEq] at hb
    exact hTe hb.2.1.symm
theorem PRow.cell {s : ByteArray} {n B g cap : Nat} {w : World} {m : Nat} (h : PRow s n m B (.slice (some ⟨g, 0, none⟩) m cap) w) (i c : Nat) (hi : i < m) (hc : c < 26) : w.cell? ⟨g, i * 26 + c, none⟩ = some (.int .i64 (cntN s i n c : Int)) := by
  have := World.ownsRow.cells h (g := g) rfl _ _ (cellsP_get s n m i c hi hc)
  rwa [add_plain] at this
theorem PRow.range {s : ByteArray} {n B g cap : Nat} {w : World} {m : Nat} (h : PRow s n m B (.slice (some ⟨g, 0, none⟩) m cap) w) (i : Nat) (hi : i < m) : w.rangeAt g (i * 26) ((tl26 s i n).map (Value.int .i64)) := by
  intro j v hv
  have hj : j < 26 := by
    have := (List.getElem?_eq_some_iff.1 hv).1
    rwa [List.length_map, tl26_length] at this
  rw [List.getElem?_map, tl26_get _ _ _ _ hj] at hv
  rw [h.cell i j hi hj]
  exact hv
theorem size26 (xs : List Int) (h : xs.length = 26) : (Try.prog.info? 70).map (·.size) = some (arrV xs).size := by
  rw [arrV_size, h]
  kernel_rfl
theorem all26 (xs : List Int) : (arrV xs).all (·.oneCell') = true := by
  rw [Array.all_eq_true_iff_forall_mem]
  intro v hv
  simp only [arrV, List.mem_toArray, List.mem_map] at hv
  obtain ⟨x, _, rfl⟩ := hv
  rfl
theorem XBlk.lt {B : Nat} {w : World} (h : XBlk B w) : B < w.heap.size := (Array.getElem?_eq_some_iff.1 h).1
theorem round_parts {s : ByteArray} {n m B : Nat} {v v' : Value} {w wr w1 w2 : World} {cs : Array Value} (hP : PRow s n m B v wr) (hX : XBlk B wr) (hB : Below B w wr) (hB1 : Below wr.heap.size wr w1)
    (hown : w2.ownsRow B 70 26 v' (m + 1) (cellsP s n m ++ (tl26 s m n).map (Value.int .i64))) (hg : (w1.alloc (Obj.cells cs 70)).grownBy w2 v.ownBlock) :
    PRow s n (m + 1) B v' w2 ∧ XBlk B w2 ∧ Below B w w2 := by
  have hlt := hX.lt
  have h1 := hB1.size
  have hne : some B ≠ v.ownBlock := own_ne hP hX (by decide)
  refine ⟨?_, ?_, ?_⟩
  · unfold PRow; rw [cellsP_succ]; exact hown
  · unfold XBlk
    rw [hg.block B (by simp; omega) hne, Below.heap_alloc _ _ _ (by omega), hB1.block B hlt]
    exact hX
  · have h2 : Below B w (w1.alloc (Obj.cells cs 70)) := (hB.trans (hB1.mono (by omega))).alloc (by omega) _
    exact h2.grown hg (by simp; omega) (fun k hk => own_base hP k hk)
theorem oneCell26 (s : ByteArray) (i n : Nat) : ∀ u ∈ (tl26 s i n).map (Value.int .i64), u.oneCell' = true := by
  intro u hu
  obtain ⟨x, _, rfl⟩ := List.mem_map.1 hu
  rfl
/-- the block of the part that is held against the others -/
def IBlk (s : ByteArray) (n i g : Nat) (w : World) : Prop := w.heap[g]? = some (.cells (arrV (tl26 s i n)) 70 (0, 0))
theorem own_set {w w' : World} {B e size n : Nat} {v : Value} {xs : List Value} (h : w.ownsRow B e size v n xs) (hh : ∀ k, k < w.heap.size → w'.heap[k]? = w.heap[k]?) : w'.ownsRow B e size v n xs :=
  own_move h fun k hk => hh k (own_lt h k hk)
theorem start_i {s : ByteArray} {n i m B : Nat} {v : Value} {w w2 : World} {z : Array Value} (hP : PRow s n m B v w2) (hX : XBlk B w2) (hB : Below B w w2) :
    IBlk s n i w2.heap.size ((w2.alloc (.cells z 70)).setRow w2.heap.size (arrV (tl26 s i n))) ∧ PRow s n m B v ((w2.alloc (.cells z 70)).setRow w2.heap.size (arrV (tl26 s i n))) ∧
      XBlk B ((w2.alloc (.cells z 70)).setRow w2.heap.size (arrV (tl26 s i n))) ∧ Below B w ((w2.alloc (.cells z 70)).setRow w2.heap.size (arrV (tl26 s i n))) := by
  have hlt := hX.lt
  have hh : ∀ k, k < w2.heap.size → ((w2.alloc (.cells z 70)).setRow w2.heap.size (arrV (tl26 s i n))).heap[k]? = w2.heap[k]? := fun k hk => by
    rw [setRow_other _ _ _ _ (by omega), Below.heap_alloc _ _ _ hk]
  exact ⟨setRow_heap _ _ _ _ _ _ (heap_alloc_new w2 _), own_set hP hh, (hh B hlt).trans hX, (hB.alloc (by omega) _).trans (below_setRow _ _ _ _ (by omega))⟩
theorem enc_letter : ∀ c : Nat, c < 26 → Utf8.encode (97 + (c : Int)) = (letterB c) := by decide +kernel
theorem allW (a b c : Int) (d : ByteArray) : (#[.int .i64 a, .int .i64 b, .int .i64 c, .string d] : Array Value).all (·.oneCell') = true := by simp [Value.oneCell']
theorem size4 (a b c d a' b' c' d' : Value) : (#[a, b, c, d] : Array Value).size = (#[a', b', c', d'] : Array Value).size := rfl
theorem sizeW (a b c d : Value) : (Try.prog.info? 28).map (·.size) = some (#[a, b, c, d] : Array Value).size := by kernel_rfl
theorem XBlk.at_ {B : Nat} {w : World} (h : XBlk B w) : w.heap[B]? = some (.cells #[.int .i64 0, .int .i64 0, .int .i64 0, .string ⟨#[]⟩] 28 (0, 0)) := h
set_option maxHeartbeats 8000000 in
set_option maxRecDepth 100000 in
theorem balanced_walk (s : ByteArray) (w : World) (k : Nat) (hk : word_Check.f k s = some 0) (hs : Small s) (h1 : 1 ≤ s.size) (h2 : s.size ≤ 60) :
    Calls Try.prog 13 #[.string s] w fun e w' => (match wit s with
      | none => e = .returned (.tuple #[.bool true, .agg #[.int .i64 0, .int .i64 0, .int .i64 0, .string ⟨#[]⟩], .int .i64 0])
      | some (n, i, j, c) => e = .returned (.tuple #[.bool false, .agg #[.int .i64 (n : Int), .int .i64 (i : Int), .int .i64 (j : Int), .string (letterB c)], .int .i64 0])) ∧ Below w.heap.size w w' := by
  have HS := Aside0.mk hs
  have HK := Aside0.mk hk
  clear hs hk
  generalize hW : wit s = R
  have HW := Aside0.mk hW
  clear hW
  obtain ⟨it, HI⟩ : ∃ it, Info26 it := by
    obtain ⟨it, h1, h2, h3, h4⟩ := info_parts info26
    exact ⟨it, h1, h2, h3, h4⟩
  go_enter Try.func13, Try.ntmps13
  go_wp2_with (go_at_call 31; (with_reducible refine (word_Check.calls k s 0 _ HK.out).mono ?_); rintro e w' ⟨rfl, ⟨nd, rfl⟩⟩)
  go_loopw [6] (fun v wr => ∃ n : Nat, 1 ≤ n ∧ n ≤ s.size ∧ v = .int .i64 n ∧ Aside0 (wN s n = R) ∧ Aside0 (XBlk w.heap.size wr) ∧ Aside0 (Below w.heap.size w wr)) (fun v _ => (60 - intOf v).toNat)
  case atStart => exact ⟨1, by omega, by omega, rfl, HW, ⟨heap_alloc_new w _⟩, ⟨pw_below_drewN ((Below.refl _ _).alloc (Nat.le_refl _) _) _⟩⟩
  case round =>
    obtain ⟨n, hn1, hn2, rfl, hwn, hX, hB⟩ := hrel
    clear HW HK
    by_cases hlt : n < s.size
    · obtain ⟨w0, rfl⟩ : ∃ w0 : World, w0 = wr := ⟨_, rfl⟩
      go_wp2
      go_loopw [7, 28] (fun v7 v wr => ∃ m : Nat, m ≤ s.size ∧ v = .int .i64 m ∧ Aside0 (PRow s n m w.heap.size v7 wr) ∧ Aside0 (XBlk w.heap.size wr) ∧ Aside0 (Below w.heap.size w wr)) (fun _ v _ => (60 - intOf v).toNat)
      case atStart => exact ⟨0, by omega, rfl, ⟨World.ownsRow_nil _ _ _ _⟩, hX, hB⟩
      case round =>

        obtain ⟨m, hm, rfl, hP, hX, hB⟩ := hrel
        by_cases hlt2 : m < s.size
        · go_wp2_with (first | (go_at_call 34; (with_reducible refine (tally_calls s m n _ HS.out h1 h2 (by omega) (by omega)).mono ?_); rintro e w1 ⟨rfl, hB1⟩; have HB1 := Aside0.mk hB1; clear hB1) | (refine wpList_box26 rfl (.tmp 35) rfl (tl26 s m n) rfl (tl26_length s m n) ?_) | (at_builtin; refine wpList_append_own _ rfl (.tmp 31) (.tmp 36) 69 rfl w.heap.size 70 it zero26 26 208 Try.underlying69 HI.at_ HI.zero_ HI.size_ HI.bytes_ ?cz (by omega) u7 m (cellsP s n m) rfl ?co ⟨w1.heap.size, 0, none⟩ 1 1 ((tl26 s m n).map (Value.int .i64)) rfl ?c0 ?c1 ?c2 ?c3 ?c4 ?c5 ?_))
          case cz => rfl
          case co => exact (pw_own_below hP.out HB1.out).alloc _
          case c0 => rw [List.length_map, tl26_length]
          case c1 =>
            intro j u hu
            rw [add_plain, cell_of_row _ _ _ _ _ _ (heap_alloc_new w1 _)]
            simpa [arrV] using hu
          case c2 => exact oneCell26 s m n
          case c3 => unfold maxLen; omega
          case c4 => omega
          case c5 => have a := hX.out.lt; have b := HB1.out.size; simp; omega
          intro v' w2 hown hgrow _
          obtain ⟨hP2, hX2, hB2⟩ := round_parts hP.out hX.out hB.out HB1.out hown hgrow
          have HP2 := Aside0.mk hP2
          have HX2 := Aside0.mk hX2
          have HB2 := Aside0.mk hB2
          clear hP2 hX2 hB2 hown hgrow HB1 hP hX hB
          go_wp2
          go_roundw
          case rel => exact ⟨m + 1, by omega, by go_num, HP2, HX2, HB2⟩
          case measure => simp [intOf]; omega
        · obtain rfl : m = s.size := by omega
          obtain ⟨g, cap, ev, hg1, hg2⟩ := hP.out.form (by omega)
          subst ev
          have HW0 : Aside0 ((wI s n 0).or (wN s (n + 1)) = R) := ⟨by rw [← wN_next hlt]; exact hwn.out⟩
          obtain ⟨w1, rfl⟩ : ∃ w1 : World, w1 = wr := ⟨_, rfl⟩
          go_wp2
          go_loopw [41] (fun v wr => ∃ i : Nat, i ≤ s.size ∧ v = .int .i64 i ∧ Aside0 ((wI s n i).or (wN s (n + 1)) = R) ∧ Aside0 (PRow s n s.size w.heap.size (.slice (some ⟨g, 0, none⟩) s.size cap) wr) ∧ Aside0 (XBlk w.heap.size wr) ∧ Aside0 (Below w.heap.size w wr)) (fun v _ => (60 - intOf v).toNat)
          case atStart => exact ⟨0, by omega, rfl, HW0, hP, hX, hB⟩
          case round =>
            clear HW0
            obtain ⟨i, hi, rfl, hwi, hP, hX, hB⟩ := hrel
            by_cases hlt3 : i < s.size
            · obtain ⟨w2, rfl⟩ : ∃ w2 : World, w2 = wr := ⟨_, rfl⟩
              have HR := Aside0.mk (hP.out.range i hlt3)
              have HZ := Aside0.mk (size26 (tl26 s i n) (tl26_length s i n))
              go_wp2_with (first | (refine wpList_load_mid rfl 70 (.tmp 44) rfl g (i * 26) rfl ((tl26 s i n).map (Value.int .i64)) _ HR.out Try.underlying70 rfl (by rw [List.length_map, tl26_length]; kernel_rfl) ?_) | (refine wpList_store_row rfl 70 (.tmp 10) (.tmp 45) rfl w2.heap.size (arrV (tl26 s i n)) rfl rfl 70 _ (heap_alloc_new w2 _) HZ.out (by rw [arrV_size, tl26_length]; rfl) (all26 _) ?_))
              have HW1 : Aside0 ((wJ s n i (i + 1)).or ((wI s n (i + 1)).or (wN s (n + 1))) = R) := ⟨by rw [← Option.or_assoc, ← wI_next hlt3]; exact hwi.out⟩
              go_loopw [11] (fun v wr => ∃ j : Nat, i + 1 ≤ j ∧ j ≤ s.size ∧ v = .int .i64 j ∧ Aside0 ((wJ s n i j).or ((wI s n (i + 1)).or (wN s (n + 1))) = R) ∧ Aside0 (IBlk s n i w2.heap.size wr ∧ PRow s n s.size w.heap.size (.slice (some ⟨g, 0, none⟩) s.size cap) wr ∧ XBlk w.heap.size wr ∧ Below w.heap.size w wr)) (fun v _ => (60 - intOf v).toNat)
              case atStart => exact ⟨i + 1, by omega, by omega, by go_num, HW1, ⟨start_i hP.out hX.out hB.out⟩⟩
              case round =>
                clear HW1 HR HZ hP hX hB hwi
                obtain ⟨j, hj1, hj2, rfl, hwj, hQ⟩ := hrel
                by_cases hlt4 : j < s.size
                · have HW2 : Aside0 ((wC s n i j 0).or ((wJ s n i (j + 1)).or ((wI s n (i + 1)).or (wN s (n + 1)))) = R) := ⟨by rw [← Option.or_assoc, ← wJ_next hlt4]; exact hwj.out⟩
                  clear hwj
                  obtain ⟨w3, rfl⟩ : ∃ w3 : World, w3 = wr := ⟨_, rfl⟩
                  go_wp2
                  go_loopw [54] (fun v wr => ∃ c : Nat, c ≤ 26 ∧ v = .int .i64 c ∧ Aside0 ((wC s n i j c).or ((wJ s n i (j + 1)).or ((wI s n (i + 1)).or (wN s (n + 1)))) = R) ∧ Aside0 (IBlk s n i w2.heap.size wr ∧ PRow s n s.size w.heap.size (.slice (some ⟨g, 0, none⟩) s.size cap) wr ∧ XBlk w.heap.size wr ∧ Below w.heap.size w wr)) (fun v _ => (26 - intOf v).toNat)
                  case atStart => exact ⟨0, by omega, rfl, HW2, hQ⟩
                  case round =>
                    clear HW2 hQ
                    obtain ⟨c, hc, rfl, hwc, hQ⟩ := hrel
                    by_cases hlt5 : c < 26
                    · have ci : wr.cell? ⟨w2.heap.size, c, none⟩ = some (.int .i64 (cntN s i n c : Int)) := by
                        rw [cell_of_row _ _ _ _ _ _ hQ.out.1]
                        exact arrV_get _ _ _ (tl26_get _ _ _ _ hlt5)
                      have cj : wr.cell? ⟨g, j * 26 + c, none⟩ = some (.int .i64 (cntN s j n c : Int)) := hQ.out.2.1.cell j c hlt4 hlt5
                      have li := cntN_le s i n c
                      have lj := cntN_le s j n c
                      by_cases d1 : 1 < ((cntN s i n c : Int) - (cntN s j n c : Int))
                      · have b1 : decide (1 < ((cntN s i n c : Int) - (cntN s j n c : Int))) = true := decide_eq_true d1
                        have hbad : badB s n i j c = true := by unfold badB; rw [decide_eq_true (show _ > _ from d1)]; rfl
                        have hR := hwc.out
                        rw [wC_bad hlt5 hbad] at hR
                        have hR2 : some (n, i, j, c) = R := hR
                        subst hR2
                        have HE := Aside0.mk (enc_letter c hlt5)
                        have HXX := Aside0.mk hQ.out.2.2.1.at_
                        clear hR hbad hwc
                        clear d1
                        go_wp2
                        go_quiet (fail)
                        go_wp2_with (refine wpList_store_row rfl 28 (.tmp 3) (.tmp 80) rfl w.heap.size #[.int .i64 (n : Int), .int .i64 (i : Int), .int .i64 (j : Int), .string (Utf8.encode (97 + (c : Int)))] rfl rfl 28 _ HXX.out (sizeW _ _ _ _) (size4 _ _ _ _ _ _ _ _) (allW _ _ _ _) ?_)
                        refine bodyPost_ret (results_list (rs := [.tmp 2, .cell 3 28, .tmp 4]) rfl (by simp) (.tmp (.cell w.heap.size 28 #[.int .i64 (n : Int), .int .i64 (i : Int), .int .i64 (j : Int), .string (Utf8.encode (97 + (c : Int)))] (0, 0) _ rfl (setRow_heap (wr.drewN nq) _ _ _ _ _ (blk_drewN HXX.out nq)) Try.underlying28 rfl (sizeW _ _ _ _) (.tmp .nil)))) rfl ⟨by rw [← (show _ = letterB c from HE.out)]; rfl, ?_⟩
                        exact (pw_below_drewN hQ.out.2.2.2 nq).trans (below_setRow _ _ _ _ (Nat.le_refl _))
                      have b1 : decide (1 < ((cntN s i n c : Int) - (cntN s j n c : Int))) = false := decide_eq_false d1
                      by_cases d2 : ((cntN s i n c : Int) - (cntN s j n c : Int)) < -1
                      · have b2 : decide (((cntN s i n c : Int) - (cntN s j n c : Int)) < -1) = true := decide_eq_true d2
                        have hbad : badB s n i j c = true := by unfold badB; rw [b2, Bool.or_true]
                        have hR := hwc.out
                        rw [wC_bad hlt5 hbad] at hR
                        have hR2 : some (n, i, j, c) = R := hR
                        subst hR2
                        have HE := Aside0.mk (enc_letter c hlt5)
                        have HXX := Aside0.mk hQ.out.2.2.1.at_
                        clear hR hbad hwc
                        clear d1 d2
                        go_wp2
                        go_quiet (fail)
                        go_wp2_with (refine wpList_store_row rfl 28 (.tmp 3) (.tmp 80) rfl w.heap.size #[.int .i64 (n : Int), .int .i64 (i : Int), .int .i64 (j : Int), .string (Utf8.encode (97 + (c : Int)))] rfl rfl 28 _ HXX.out (sizeW _ _ _ _) (size4 _ _ _ _ _ _ _ _) (allW _ _ _ _) ?_)
                        refine bodyPost_ret (results_list (rs := [.tmp 2, .cell 3 28, .tmp 4]) rfl (by simp) (.tmp (.cell w.heap.size 28 #[.int .i64 (n : Int), .int .i64 (i : Int), .int .i64 (j : Int), .string (Utf8.encode (97 + (c : Int)))] (0, 0) _ rfl (setRow_heap (wr.drewN nq) _ _ _ _ _ (blk_drewN HXX.out nq)) Try.underlying28 rfl (sizeW _ _ _ _) (.tmp .nil)))) rfl ⟨by rw [← (show _ = letterB c from HE.out)]; rfl, ?_⟩
                        exact (pw_below_drewN hQ.out.2.2.2 nq).trans (below_setRow _ _ _ _ (Nat.le_refl _))
                      have b2 : decide (((cntN s i n c : Int) - (cntN s j n c : Int)) < -1) = false := decide_eq_false d2
                      have hbad : badB s n i j c = false := by unfold badB; rw [b2, Bool.or_false]; exact b1
                      have HC2 : Aside0 ((wC s n i j (c + 1)).or ((wJ s n i (j + 1)).or ((wI s n (i + 1)).or (wN s (n + 1)))) = R) := ⟨by rw [← wC_next hlt5 hbad]; exact hwc.out⟩
                      clear hbad hwc d1 d2
                      go_wp2
                      go_quiet (fail)
                      go_wp2
                      go_roundw
                      case rel => exact ⟨c + 1, by omega, by go_num, HC2, ⟨hQ.out.1, hQ.out.2.1, hQ.out.2.2.1, pw_below_drewN hQ.out.2.2.2 nq⟩⟩
                      case measure => simp [intOf]; omega
                    · obtain rfl : c = 26 := by omega
                      have HC2 : Aside0 ((wJ s n i (j + 1)).or ((wI s n (i + 1)).or (wN s (n + 1))) = R) := ⟨by have := hwc.out; rw [wC_end] at this; exact this⟩
                      clear hwc
                      go_wp2
                      go_roundw
                      case rel => exact ⟨j + 1, by omega, by omega, by go_num, HC2, hQ⟩
                      case measure => simp [intOf]; omega
                · obtain rfl : j = s.size := by omega
                  have HC2 : Aside0 ((wI s n (i + 1)).or (wN s (n + 1)) = R) := ⟨by have := hwj.out; rw [wJ_end (Nat.le_refl _)] at this; exact this⟩
                  clear hwj
                  go_wp2
                  go_roundw
                  case rel => exact ⟨i + 1, by omega, by go_num, HC2, ⟨hQ.out.2.1⟩, ⟨hQ.out.2.2.1⟩, ⟨hQ.out.2.2.2⟩⟩
                  case measure => simp [intOf]; omega
            · obtain rfl : i = s.size := by omega
              have HC2 : Aside0 (wN s (n + 1) = R) := ⟨by have := hwi.out; rw [wI_end (Nat.le_refl _)] at this; exact this⟩
              clear hwi
              go_wp2
              go_roundw
              case rel => exact ⟨n + 1, by omega, by omega, by go_num, HC2, hX, hB⟩
              case measure => simp [intOf]; omega
    · obtain rfl : n = s.size := by omega
      have hR := hwn.out
      rw [wN_end (Nat.le_refl _)] at hR
      have hR2 : none = R := hR
      subst hR2
      have HXX := Aside0.mk hX.out.at_
      clear hR hwn
      go_wp2_with (refine wpList_store_row rfl 28 (.tmp 3) (.tmp 83) rfl w.heap.size #[.int .i64 0, .int .i64 0, .int .i64 0, .string ⟨#[]⟩] rfl rfl 28 _ HXX.out (sizeW _ _ _ _) (size4 _ _ _ _ _ _ _ _) (allW _ _ _ _) ?_)
      refine bodyPost_ret (results_list (rs := [.tmp 2, .cell 3 28, .tmp 4]) rfl (by simp) (.tmp (.cell w.heap.size 28 #[.int .i64 0, .int .i64 0, .int .i64 0, .string ⟨#[]⟩] (0, 0) _ rfl (setRow_heap _ _ _ _ _ _ HXX.out) Try.underlying28 rfl (sizeW _ _ _ _) (.tmp .nil)))) rfl ⟨rfl, ?_⟩
      exact hB.out.trans (below_setRow _ _ _ _ (Nat.le_refl _))
theorem check_small {k : Nat} {s : ByteArray} (h : word_Check.f k s = some 0) : Small s ∧ 1 ≤ s.size ∧ s.size ≤ 60 := by
  unfold word_Check.f at h
  split at h
  · simp at h
  rename_i hne
  split at h
  · simp at h
  have h1 : 1 ≤ s.size := by
    rcases Nat.eq_zero_or_pos s.size with h0 | h0
    · exfalso
      apply hne
      rw [ByteArray.size_eq_zero_iff.mp h0]
      simp
    · exact h0
  refine ⟨?_, h1, by omega⟩
  have key : ∀ (k i : Nat), i ≤ s.size → word_Check.l0 k s (s.size : Int) (i : Int) = some 0 → ∀ j (hj : j < s.size), i ≤ j → 97 ≤ (s[j]'hj).toNat ∧ (s[j]'hj).toNat ≤ 122 := by
    intro k
    induction k with
    | zero => intro i _ h; simp [word_Check.l0] at h
    | succ k ih =>
      intro i hi h j hj hij
      simp only [word_Check.l0] at h
      have hlt : (i : Int) < (s.size : Int) := by omega
      rw [if_pos hlt, if_pos (by omega), if_pos hlt] at h
      split at h
      · simp at h
      split at h
      · simp at h
      rename_i g1 g2
      rw [show wrap64 ((i : Int) + 1) = ((i + 1 : Nat) : Int) by unfold wrap64; omega] at h
      rcases Nat.eq_or_lt_of_le hij with e | hlt2
      · subst e
        have := bt_at s (i : Int) hj
        simp only [Int.toNat_natCast] at this
        omega
      · exact ih (i + 1) (by omega) h j hj (by omega)
  exact fun j hj => key k 0 (Nat.zero_le _) h j hj (Nat.zero_le _)
theorem word_Balanced.calls (k : Nat) (a0 : ByteArray) (r1 : Bool) (r2 : Int) (r3 : Int) (r4 : Int) (r5 : ByteArray) (r6 : Int) (w : World) (h : word_Balanced.f k a0 = some (r1, r2, r3, r4, r5, r6)) :
    Calls Try.prog 13 #[.string a0] w fun e w' => e = .returned (.tuple #[.bool r1, .agg #[.int .i64 r2, .int .i64 r3, .int .i64 r4, .string r5], .int .i64 r6]) ∧ Below w.heap.size w w' := by
  have H : ((word_Check.f k a0).bind fun t0 => if t0 = 0 then some (balF a0) else some (false, 0, 0, 0, ⟨#[]⟩, t0)) = some (r1, r2, r3, r4, r5, r6) := h
  clear h
  replace H := Option.bind_eq_some_iff.mp H
  obtain ⟨t0, A00, H⟩ := H
  have A0 := Aside0.mk A00
  clear A00
  by_cases c0 : t0 = 0
  · rw [if_pos c0] at H
    have hk : word_Check.f k a0 = some 0 := c0 ▸ A0.out
    obtain ⟨hs, h1, h2⟩ := check_small hk
    refine (balanced_walk a0 w k hk hs h1 h2).mono ?_
    rintro e w' ⟨he, hB⟩
    refine ⟨?_, hB⟩
    unfold balF at H
    cases hw : wit a0 with
    | none =>
      rw [hw] at he H
      obtain ⟨rfl, rfl, rfl, rfl, rfl, rfl⟩ : true = r1 ∧ (0 : Int) = r2 ∧ (0 : Int) = r3 ∧ (0 : Int) = r4 ∧ (⟨#[]⟩ : ByteArray) = r5 ∧ (0 : Int) = r6 := by simpa using H
      exact he
    | some x =>
      obtain ⟨n, i, j, c⟩ := x
      rw [hw] at he H
      obtain ⟨rfl, rfl, rfl, rfl, rfl, rfl⟩ : false = r1 ∧ (n : Int) = r2 ∧ (i : Int) = r3 ∧ (j : Int) = r4 ∧ letterB c = r5 ∧ (0 : Int) = r6 := by simpa using H
      exact he
  · rw [if_neg c0] at H
    have c0b0 : (t0 == 0) = false := beq_eq_false_iff_ne.mpr c0
    have c0b1 : (t0 != 0) = true := bne_iff_ne.mpr c0
    clear c0
    simp only [Option.some.injEq, Prod.mk.injEq] at H
    obtain ⟨rfl, rfl, rfl, rfl, rfl, rfl⟩ := H
    go_enter Try.func13, Try.ntmps13
    go_wp2_with (first | (go_at_call 31; (with_reducible refine (word_Check.calls k a0 t0 _ A0.out).mono ?_); rintro e w' ⟨rfl, ⟨nd, rfl⟩⟩) | (refine wpList_store_row rfl 28 (.tmp 3) (.tmp 18) rfl w.heap.size #[.int .i64 0, .int .i64 0, .int .i64 0, .string ⟨#[]⟩] rfl rfl 28 #[.int .i64 0, .int .i64 0, .int .i64 0, .string ⟨#[]⟩] (blk_drewN (heap_alloc_new w _) nd) (sizeW _ _ _ _) (size4 _ _ _ _ _ _ _ _) (allW _ _ _ _) ?_))
    refine bodyPost_ret (results_list (rs := [.tmp 2, .cell 3 28, .tmp 4]) rfl (by simp) (.tmp (.cell w.heap.size 28 #[.int .i64 0, .int .i64 0, .int .i64 0, .string ⟨#[]⟩] (0, 0) _ rfl (setRow_heap _ _ #[.int .i64 0, .int .i64 0, .int .i64 0, .string ⟨#[]⟩] _ _ _ (blk_drewN (heap_alloc_new w _) nd)) Try.underlying28 rfl (sizeW _ _ _ _) (.tmp .nil)))) rfl ⟨rfl, ?_⟩
    exact (pw_below_drewN ((Below.refl _ _).alloc (Nat.le_refl _) _) _).trans (below_setRow _ _ _ _ (Nat.le_refl _))
end Go.Proofs.Ytpommkpgiogjgaa.X
