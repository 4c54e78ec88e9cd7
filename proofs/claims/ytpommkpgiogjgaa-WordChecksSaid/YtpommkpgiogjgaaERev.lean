/- word.Reverse returns the letters in the other order, or the first error: for all words whose check tells an answer. -/
import Derived.Test.YtpommkpgiogjgaaX2
import Derived.Sort.WalkB12
import Derived.Lib.SlicesMore
import Derived.Lib.ConvBytes
import Derived.Laws.IdiomStrings
set_option linter.unusedVariables false
set_option linter.unusedSimpArgs false
namespace Go.Proofs.Ytpommkpgiogjgaa.X
open Go.RowKit Go.Proofs.YtpommkpgiogjgaaW.PrintWords Go.Proofs.YtpommkpgiogjgaaW.PrintLast Go.Proofs.YtpommkpgiogjgaaW.PrintMore

section
open Go.Lib Go.Sort
def encB : Int → Value := Value.int .u8
set_option maxHeartbeats 1600000 in
set_option maxRecDepth 1000000 in
theorem reverse_arr (blk off cap : Nat) (d : Array Int) (w : World) (hH : Holds encB w blk off d) (hsz : d.size ≤ 9223372036854775807) :
    Calls Try.prog 42 #[.slice (some ⟨blk, off, none⟩) d.size cap] w fun e w' => e = .returned (.tuple #[]) ∧ ∃ n, w' = putRow encB (Sort.ahead w n) blk off d.reverse := by
  go_enter Try.func42, Try.ntmps42
  go_wp2
  go_loopg [2, 3] d.size (fun k s2 s3 wr => ∃ (i jn : Nat) (jz : Int) (dk : Array Int) (n : Nat), s2 = .int .i64 i ∧ s3 = .int .i64 jz ∧ ((i : Int) < jz → jz = jn ∧ jn < d.size) ∧ (¬ (i : Int) < jz → ¬ i < jn) ∧ jn - i ≤ k ∧
    dk.size = d.size ∧ wr = putRow encB (Sort.ahead w n) blk off dk ∧ reverseLoop i jn dk = reverseLoop 0 (d.size - 1) d)
  case atStart => exact ⟨0, d.size - 1, (d.size : Int) - 1, d, 0, rfl, rfl, fun h => ⟨by omega, by omega⟩, fun h => by omega, by omega, rfl, (putRow_self encB w blk off d hH).symm, rfl⟩
  case round =>
    obtain ⟨i, jn, jz, dk, n, rfl, rfl, h1, h2, hk, hds, hwr, heq⟩ := hrel
    by_cases hlt : (i : Int) < jz
    · obtain ⟨rfl, hjn⟩ := h1 hlt
      have hij : i < jn := by omega
      have hHk : Holds encB wr blk off dk := by rw [hwr]; exact holds_putRow encB _ blk off d dk (holds_ahead encB w n blk off d hH) hds
      obtain ⟨ci, fi⟩ := hHk i (by omega)
      obtain ⟨cj, fj⟩ := hHk jn (by omega)
      have A : Aside (wr = putRow encB (Sort.ahead w n) blk off dk) := hwr
      clear hwr hHk hH h1 h2
      unfold encB at ci cj
      go_wp2_with fail
      go_region
      go_wp2
      go_roundg (jn - 1 - (i + 1))
      case measure => omega
      case rel =>
        rw [reverseLoop, if_pos hij] at heq
        exact ⟨i + 1, jn - 1, (jn : Int) - 1, swp dk i jn, n + 1, by simp, rfl, fun h => ⟨by omega, by omega⟩, fun h => by omega, Nat.le_refl _, by rw [size_swp]; exact hds,
          swap_world encB (by omega) (by omega) A.out (by first | rfl | simp [encB, getElem!_pos, show jn < dk.size by omega]) (by first | rfl | simp [encB, getElem!_pos, show i < dk.size by omega]), heq⟩
    · have hnot := h2 hlt
      go_wp2
      go_end0
      refine ⟨rfl, n, ?_⟩
      rw [reverseLoop, if_neg hnot] at heq
      rw [← Lib.reverseLoop_reverse, ← heq]
/-- the bytes as numbers -/
def arrB (s : ByteArray) : Array Int := (s.data.toList.map fun b => (b.toNat : Int)).toArray
theorem arrB_size (s : ByteArray) : (arrB s).size = s.size := by simp [arrB]
theorem below_putRow (w : World) (n blk : Nat) (d : Array Int) (B : Nat) (hB : B ≤ blk) : Below B w (putRow encB (Sort.ahead w n) blk 0 d) :=
  ⟨rfl, rfl, rfl, by simp [putRow, mapBlock, Sort.ahead], fun k hk => by
    simp only [putRow, mapBlock, Sort.ahead, Array.getElem?_modify]
    rw [if_neg (by omega)]⟩
theorem reverse_bytes (blk cap : Nat) (s : ByteArray) (w : World) (hH : Holds encB w blk 0 (arrB s)) (hsz : s.size ≤ 9223372036854775807) (B : Nat) (hB : B ≤ blk) :
    Calls Try.prog 42 #[.slice (some ⟨blk, 0, none⟩) s.size cap] w fun e w' => e = .returned (.tuple #[]) ∧ Below B w w' ∧
      ∀ j (hj : j < s.data.toList.reverse.length), w'.cell? ((⟨blk, 0, none⟩ : Addr).add j) = some (.int .u8 (s.data.toList.reverse[j].toNat : Int)) := by
  have h := reverse_arr blk 0 cap (arrB s) w hH (by rw [arrB_size]; exact hsz)
  rw [arrB_size] at h
  refine h.mono ?_
  rintro e w' ⟨rfl, n, rfl⟩
  refine ⟨rfl, below_putRow w n blk _ B hB, fun j hj => ?_⟩
  have hz : (arrB s).reverse.size = (arrB s).size := by simp
  have hjs : j < (arrB s).reverse.size := by rw [hz, arrB_size]; simpa using hj
  have hc := cell?_putRow encB (Sort.ahead w n) blk 0 (arrB s) (arrB s).reverse (holds_ahead encB w n blk 0 _ hH) hz j hjs
  rw [Nat.zero_add] at hc
  rw [add_plain, hc]
  rw [getElem!_pos (arrB s).reverse j hjs]
  simp [encB, arrB]
theorem holds_bytes (w : World) (e : TypeId) (s : ByteArray) : Holds encB (Lib.bytesWorld w e s) w.heap.size 0 (arrB s) := by
  intro j hj
  rw [arrB_size] at hj
  rw [Nat.zero_add]
  refine ⟨?_, ?_⟩
  · rw [Lib.bytesWorld_cell w e s j hj, getElem!_pos (arrB s) j (by rw [arrB_size]; exact hj)]
    have hj2 : j < s.data.toList.length := by simpa using hj
    simp [encB, arrB, hj]
  · have h := Lib.bytesWorld_at_new w e s
    have hs : j < (Lib.bytesCells w e s).size := by simp [Lib.bytesCells]; omega
    simp only [World.frozen?, h]
    simp; omega
theorem below_bytes (w : World) (e : TypeId) (s : ByteArray) : Below w.heap.size w (Lib.bytesWorld w e s) :=
  ⟨rfl, rfl, rfl, by rw [Lib.bytesWorld_size]; omega, fun k hk => Lib.bytesWorld_at_old w e s k hk⟩
end
theorem check_size {k : Nat} {a0 : ByteArray} (h : word_Check.f k a0 = some 0) : a0.size ≤ 60 := by
  unfold word_Check.f at h
  split at h
  · simp at h
  · split at h
    · simp at h
    · omega
def word_Reverse.f (k : Nat) (a0 : ByteArray) : Option (ByteArray × Int) :=
  (word_Check.f k a0).bind fun t0 => (if t0 = 0 then (some (⟨a0.data.toList.reverse.toArray⟩, 0)) else (some ((⟨#[]⟩ : ByteArray), t0)))
theorem word_Reverse.mono : ∀ a0 k, LeO (word_Reverse.f k a0) (word_Reverse.f (k + 1) a0) := by
  intro a0 k
  unfold word_Reverse.f
  exact LeO.bind (word_Check.mono _ _) (fun _ => LeO.refl _)
set_option maxHeartbeats 4000000 in
set_option maxRecDepth 100000 in
theorem word_Reverse.calls (k : Nat) (a0 : ByteArray) (r1 : ByteArray) (r2 : Int) (w : World) (h : word_Reverse.f k a0 = some (r1, r2)) :
    Calls Try.prog 30 #[.string a0] w fun e w' => e = .returned (.tuple #[.string r1, .int .i64 r2]) ∧ Below w.heap.size w w' := by
  have H : ((word_Check.f k a0).bind fun t0 => (if t0 = 0 then (some ((⟨a0.data.toList.reverse.toArray⟩ : ByteArray), (0 : Int))) else (some ((⟨#[]⟩ : ByteArray), t0)))) = some (r1, r2) := h
  clear h
  replace H := Option.bind_eq_some_iff.mp H
  obtain ⟨t0, A00, H⟩ := H
  have A0 := Aside0.mk A00
  clear A00
  by_cases c0 : t0 = 0
  · rw [if_pos c0] at H
    have c0b0 : (t0 == 0) = true := beq_iff_eq.mpr c0
    have c0b1 : (t0 != 0) = false := bne_eq_false_iff_eq.mpr c0
    have HS := Aside0.mk (check_size (c0 ▸ A0.out))
    clear c0
    simp only [Option.some.injEq, Prod.mk.injEq] at H
    obtain ⟨rfl, rfl⟩ := H
    have hcv := fun W => Lib.run_convert_string_bytes (P := Try.prog) W 9 22 5 a0 Try.underlying9 Try.underlying22 Try.underlying5
    go_enter Try.func30, Try.ntmps30
    go_wp2_with (go_at_call 31; (with_reducible refine (word_Check.calls k a0 t0 _ A0.out).mono ?_); rintro e w' ⟨rfl, ⟨nd, rfl⟩⟩)
    refine (reverse_bytes w.heap.size (grownCap (w.drewN nd) a0.size 0 5) a0 _ (holds_bytes (w.drewN nd) 5 a0) (by have := HS.out; omega) w.heap.size (Nat.le_refl _)).mono ?_
    rintro e w2 ⟨rfl, hB, hc⟩
    have HB := Aside0.mk (((pw_below_drewN (Below.refl w.heap.size w) nd).trans (below_bytes (w.drewN nd) 5 a0)).trans hB)
    have hcs := run_convert_bytes_back (P := Try.prog) w2 22 9 5 ⟨w.heap.size, 0, none⟩ (grownCap (w.drewN nd) a0.size 0 5) a0.data.toList.reverse Try.underlying22 Try.underlying5 Try.underlying9 hc
    have hl : a0.data.toList.reverse.length = a0.size := by simp
    rw [hl] at hcs
    clear hc hB hcv hl
    go_wp2
    go_ret2
    exact ⟨rfl, HB.out⟩
  · rw [if_neg c0] at H
    have c0b0 : (t0 == 0) = false := beq_eq_false_iff_ne.mpr c0
    have c0b1 : (t0 != 0) = true := bne_iff_ne.mpr c0
    clear c0
    simp only [Option.some.injEq, Prod.mk.injEq] at H
    obtain ⟨rfl, rfl⟩ := H
    go_enter Try.func30, Try.ntmps30
    go_wp2_with (go_at_call 31; (with_reducible refine (word_Check.calls k a0 t0 _ A0.out).mono ?_); rintro e w' ⟨rfl, ⟨nd, rfl⟩⟩)
    go_ret2
    exact ⟨rfl, pw_below_drewN (Below.refl _ _) _⟩
end Go.Proofs.Ytpommkpgiogjgaa.X
