/- word.tally returns how often each letter occurs in a part of a word, read around: for all words of small letters, up to 60 of them, and all parts. -/
import Derived.Test.YtpommkpgiogjgaaX2
import Derived.Laws.Tables
import Derived.Deep.MidRow
set_option linter.unusedVariables false
set_option linter.unusedSimpArgs false
namespace Go.Proofs.Ytpommkpgiogjgaa.X
open Go.RowKit Go.Proofs.YtpommkpgiogjgaaW.PrintWords Go.Proofs.YtpommkpgiogjgaaW.PrintLast Go.Proofs.YtpommkpgiogjgaaW.PrintMore

/-- letter i of a word, read around, as a number from 0 on -/
def lt_ (s : ByteArray) (i : Nat) : Nat := (s.data.toList.getD (i % s.size) 0).toNat - 97
/-- how often letter c occurs among n letters from place a on -/
def cntN (s : ByteArray) (a n c : Nat) : Nat := ((List.range n).filter fun t => lt_ s (a + t) == c).length
theorem cntN_succ (s : ByteArray) (a n c : Nat) : cntN s a (n + 1) c = cntN s a n c + (if lt_ s (a + n) = c then 1 else 0) := by
  unfold cntN
  rw [List.range_succ, List.filter_append, List.length_append]
  by_cases h : lt_ s (a + n) = c <;> simp [h]
theorem cntN_le (s : ByteArray) (a n c : Nat) : cntN s a n c ≤ n := by
  unfold cntN
  have := List.length_filter_le (fun t => lt_ s (a + t) == c) (List.range n)
  simpa using this
def tl26 (s : ByteArray) (a n : Nat) : List Int := (List.range 26).map fun c => (cntN s a n c : Int)
theorem tl26_length (s : ByteArray) (a n : Nat) : (tl26 s a n).length = 26 := by simp [tl26]
theorem tl26_get (s : ByteArray) (a n c : Nat) (h : c < 26) : (tl26 s a n)[c]? = some (cntN s a n c : Int) := by
  simp [tl26, h]
theorem tl26_succ (s : ByteArray) (a n : Nat) : tl26 s a (n + 1) = (tl26 s a n).set (lt_ s (a + n)) ((cntN s a n (lt_ s (a + n)) : Int) + 1) := by
  apply List.ext_getElem?
  intro c
  by_cases h : c < 26
  · rw [tl26_get _ _ _ _ h, List.getElem?_set]
    split
    · rename_i e
      subst e
      rw [if_pos (by rw [tl26_length]; exact h), cntN_succ, if_pos rfl]
      rfl
    · rename_i e
      rw [tl26_get _ _ _ _ h, cntN_succ, if_neg e]
      rfl
  · rw [List.getElem?_eq_none (by rw [tl26_length]; omega), List.getElem?_eq_none (by rw [List.length_set, tl26_length]; omega)]
/-- a list of numbers as cells -/
def arrV (xs : List Int) : Array Value := (xs.map (Value.int .i64)).toArray
theorem arrV_size (xs : List Int) : (arrV xs).size = xs.length := by simp [arrV]
theorem arrV_get (xs : List Int) (i : Nat) (x : Int) (h : xs[i]? = some x) : (arrV xs)[i]? = some (.int .i64 x) := by simp [arrV, h]
theorem arrV_set (xs : List Int) (i : Nat) (x : Int) : (arrV xs).setIfInBounds i (.int .i64 x) = arrV (xs.set i x) := by simp [arrV, List.map_set]
theorem below_setRow (w : World) (g : Nat) (cs : Array Value) (B : Nat) (hB : B ≤ g) : Below B w (w.setRow g cs) :=
  ⟨rfl, rfl, rfl, by simp [World.setRow], fun k hk => setRow_other w g k _ (by omega)⟩
/-- a word of small letters -/
def Small (s : ByteArray) : Prop := ∀ i (h : i < s.size), 97 ≤ (s[i]'h).toNat ∧ (s[i]'h).toNat ≤ 122
theorem Small.at_ {s : ByteArray} (hs : Small s) (i : Nat) (h : i < s.size) : ((s[i]'h).toNat : Int) = 97 + (lt_ s i : Int) ∧ lt_ s i < 26 := by
  have a := hs i h
  have e : (s[i]'h).toNat = (s.data.toList.getD i 0).toNat := by
    have h2 : i < s.data.toList.length := by simpa using h
    rw [List.getD_eq_getElem?_getD, List.getElem?_eq_getElem h2]
    rfl
  unfold lt_
  rw [Nat.mod_eq_of_lt h, ← e]
  omega
theorem lt_mod (s : ByteArray) (i : Nat) : lt_ s (i % s.size) = lt_ s i := by unfold lt_; rw [Nat.mod_mod]

set_option maxHeartbeats 4000000 in
set_option maxRecDepth 100000 in
theorem tally_calls (s : ByteArray) (a n : Nat) (w : World) (hs : Small s) (h1 : 1 ≤ s.size) (h2 : s.size ≤ 60) (ha : a ≤ 60) (hn : n ≤ 60) :
    Calls Try.prog 34 #[.string s, .int .i64 (a : Int), .int .i64 (n : Int)] w fun e w' => e = .returned (.agg (arrV (tl26 s a n))) ∧ Below w.heap.size w w' := by
  have HS := Aside0.mk hs
  clear hs
  go_enter Try.func34, Try.ntmps34
  go_wp2
  go_loopw [9] (fun v wr => ∃ i : Nat, i ≤ n ∧ v = .int .i64 i ∧ Aside0 (wr.heap[w.heap.size]? = some (.cells (arrV (tl26 s a i)) 70 (0, 0))) ∧ Aside0 (Below w.heap.size w wr)) (fun v _ => (60 - intOf v).toNat)
  case atStart => exact ⟨0, by omega, rfl, ⟨heap_alloc_new w _⟩, ⟨(Below.refl _ _).alloc (Nat.le_refl _) _⟩⟩
  case round =>
    obtain ⟨i, hi, rfl, hb, hB⟩ := hrel
    by_cases hlt : i < n
    · obtain ⟨j, hj⟩ : ∃ j, j = (a + i) % s.size := ⟨_, rfl⟩
      have hjl : j < s.size := by rw [hj]; exact Nat.mod_lt _ (by omega)
      obtain ⟨hx, hc⟩ := HS.out.at_ j hjl
      have hlj : lt_ s j = lt_ s (a + i) := by rw [hj, lt_mod]
      rw [hlj] at hx hc
      clear hlj
      obtain ⟨c, hcc⟩ : ∃ c, c = lt_ s (a + i) := ⟨_, rfl⟩
      rw [← hcc] at hx hc
      have hmod : ((a : Int) + (i : Int)) % (s.size : Int) = (j : Int) := by rw [hj]; norm_cast
      have HJ := Aside0.mk hj
      have HC := Aside0.mk hcc
      clear hj hcc
      have hcell : wr.cell? ⟨w.heap.size, c, none⟩ = some (.int .i64 (cntN s a i c : Int)) := by
        rw [cell_of_row _ _ _ _ _ _ hb.out]
        exact arrV_get _ _ _ (tl26_get _ _ _ _ hc)
      have hfro : wr.frozen? ⟨w.heap.size, c, none⟩ = false := frozen_of_row _ _ _ _ _ hb.out
      have hcl := cntN_le s a i c
      have hlt2 := World.block_lt_of_cell? wr _ hcell
      go_wp2
      go_roundw
      case rel =>
        refine ⟨i + 1, by omega, by go_num, ⟨?_⟩, ⟨hB.out.setCell (p := ⟨w.heap.size, c, none⟩) (Nat.le_refl _) _⟩⟩
        have := heap_setCell_same wr w.heap.size c (arrV (tl26 s a i)) 70 (.int .i64 ((cntN s a i c : Int) + 1)) hb.out
        rw [this, arrV_set, tl26_succ, HC.out]
      case measure => simp [intOf]; omega
    · obtain rfl : i = n := by omega
      have hsz : (Try.prog.info? 70).map (·.size) = some (arrV (tl26 s a i)).size := by
        rw [arrV_size, tl26_length]
        kernel_rfl
      have hone : (arrV (tl26 s a i)).all (·.oneCell') = true := by
        rw [Array.all_eq_true_iff_forall_mem]
        intro v hv
        simp only [arrV, List.mem_toArray, List.mem_map] at hv
        obtain ⟨x, _, rfl⟩ := hv
        rfl
      have HZ := Aside0.mk hsz
      have HO := Aside0.mk hone
      clear hsz hone
      go_wp2_with (first | (refine wpList_load_row rfl 70 (.tmp 6) rfl w.heap.size rfl 70 (arrV (tl26 s a i)) (0, 0) _ hb.out Try.underlying70 rfl HZ.out ?_) | (refine wpList_store_row rfl 70 (.tmp 6) (.tmp 26) rfl w.heap.size (arrV (tl26 s a i)) rfl rfl 70 (arrV (tl26 s a i)) hb.out HZ.out rfl HO.out ?_))
      have hb2 := setRow_heap wr w.heap.size (arrV (tl26 s a i)) (arrV (tl26 s a i)) 70 (0, 0) hb.out
      refine bodyPost_ret (results_cell_row (p := 6) (ty := 70) rfl _ _ w.heap.size 70 (arrV (tl26 s a i)) (0, 0) _ rfl hb2 Try.underlying70 rfl HZ.out) rfl ⟨rfl, ?_⟩
      exact hB.out.trans (below_setRow wr w.heap.size _ _ (Nat.le_refl _))
end Go.Proofs.Ytpommkpgiogjgaa.X
