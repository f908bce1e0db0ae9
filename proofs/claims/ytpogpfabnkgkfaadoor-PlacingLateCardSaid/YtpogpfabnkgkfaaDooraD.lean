/- The memory of digest.take; the rounds' numbers. -/
import Derived.Test.YtpogpfabnkgkfaaDooraC
namespace Go.Proofs.YtpogpfabnkgkfaaDoor
open Go.RowKit Go.BigFrame Go.Maps Go.Shelf Go.Sort
set_option maxRecDepth 100000

theorem words_set (r : List Int) (j : Nat) (v : Int) : (wordsOf r).setIfInBounds j (.int .u32 v) = wordsOf (r.set j v) := by
  unfold wordsOf
  rw [List.setIfInBounds_toArray, List.map_set]
theorem words_size (r : List Int) : (wordsOf r).size = r.length := by simp [wordsOf]
theorem ringAt_set (bs : List UInt8) (i m : Nat) (h : 4 * i + m < bs.length) (hi : i < 16) : (ringAt bs i m).set i (shlOr (wordAt bs i m) (bs[4 * i + m]'h)) = ringAt bs i (m + 1) := by
  apply List.ext_getElem?
  intro j
  by_cases hj : j < 16
  · rw [List.getElem?_set]
    by_cases e : i = j
    · subst e
      simp [ringAt, hi, wordAt_succ bs i m h]
    · rw [if_neg e]
      have e' : ¬ j = i := fun h => e h.symm
      simp [ringAt, hj, e']
  · rw [List.getElem?_eq_none (by rw [List.length_set, ringAt_len]; omega), List.getElem?_eq_none (by rw [ringAt_len]; omega)]
theorem ringAt_at (bs : List UInt8) (i m : Nat) (hi : i < 16) : (ringAt bs i m).getD i 0 = wordAt bs i m := by simp [ringAt, List.getD, hi]

/-- The constants of the rounds. -/
def roundsV : List Int := [1116352408, 1899447441, 3049323471, 3921009573, 961987163, 1508970993, 2453635748, 2870763221, 3624381080, 310598401, 607225278, 1426881987, 1925078388, 2162078206, 2614888103, 3248222580, 3835390401, 4022224774, 264347078, 604807628, 770255983, 1249150122, 1555081692, 1996064986, 2554220882, 2821834349, 2952996808, 3210313671, 3336571891, 3584528711, 113926993, 338241895, 666307205, 773529912, 1294757372, 1396182291, 1695183700, 1986661051, 2177026350, 2456956037, 2730485921, 2820302411, 3259730800, 3345764771, 3516065817, 3600352804, 4094571909, 275423344, 430227734, 506948616, 659060556, 883997877, 958139571, 1322822218, 1537002063, 1747873779, 1955562222, 2024104815, 2227730452, 2361852424, 2428436474, 2756734187, 3204031479, 3329325298]
theorem roundsV_len : roundsV.length = 64 := by kernel_rfl
/-- What the program's variable of rounds holds. -/
def GAt (w : World) : Prop := ∃ t fr, w.heap[0]? = some (.cells (wordsOf roundsV) t fr)
theorem GAt.below {w w' : World} (h : GAt w) (hb : Below w.heap.size w w') : GAt w' := by
  obtain ⟨t, fr, h⟩ := h
  exact ⟨t, fr, below_block hb h⟩

structure TakeAt (w0 : World) (B2 B4 B5 : Nat) (h r : List Int) (w : World) : Prop where
  hh : w.heap[B2]? = some (.cells (wordsOf h) 104 (0, 0))
  out : w.heap[B4]? = some (.cells (wordsOf (List.replicate 8 0)) 104 (0, 0))
  ring : w.heap[B5]? = some (.cells (wordsOf r) 118 (0, 0))
  below : Below w0.heap.size w0 w
  new : w0.heap.size ≤ B2 ∧ w0.heap.size ≤ B4 ∧ w0.heap.size ≤ B5 ∧ B2 ≠ B4
theorem TakeAt.start (w : World) (h : List Int) : TakeAt w w.heap.size (w.heap.size + 1) (w.heap.size + 1 + 1) h (List.replicate 16 0) (((w.alloc (.cells (wordsOf h) 104)).alloc (.cells (wordsOf (List.replicate 8 0)) 104)).alloc (.cells (wordsOf (List.replicate 16 0)) 118)) := by
  refine ⟨?_, ?_, ?_, ?_, by omega, by omega, by omega, by omega⟩
  · rw [heap_alloc_old _ _ (by simp [World.size_alloc]; omega)]; exact heap_alloc2_old _ _ _
  · rw [heap_alloc_old _ _ (by simp [World.size_alloc])]; exact heap_alloc2_new _ _ _
  · have e := heap_alloc_new ((w.alloc (.cells (wordsOf h) 104)).alloc (.cells (wordsOf (List.replicate 8 0)) 104)) (.cells (wordsOf (List.replicate 16 0)) 118)
    rwa [World.size_alloc, World.size_alloc] at e
  · exact (((Below.refl _ _).alloc (Nat.le_refl _) _).alloc (by simp [World.size_alloc]) _).alloc (by simp [World.size_alloc]; omega) _
theorem TakeAt.set {w0 w : World} {B2 B4 B5 : Nat} {h r : List Int} (k : TakeAt w0 B2 B4 B5 h r w) (j : Nat) (v : Int) : TakeAt w0 B2 B4 B5 h (r.set j v) (w.setCell ⟨B5, j, none⟩ (.int .u32 v)) := by
  refine ⟨?_, ?_, ?_, k.below.setCell (p := ⟨B5, j, none⟩) k.new.2.2.1 _, k.new⟩
  · rw [Below.heap_setCell _ _ _ _ (ne_block k.hh k.ring (by decide))]; exact k.hh
  · rw [Below.heap_setCell _ _ _ _ (ne_block k.out k.ring (by decide))]; exact k.out
  · rw [heap_setCell_same _ _ _ _ _ _ _ k.ring, words_set]

/-! The sixty-four rounds. -/
def andS (x y : Int) : Int := bits .and .u32 x y
def ringR (r0 : List Int) : Nat → List Int
  | 0 => r0
  | n + 1 => if n < 16 then ringR r0 n else (ringR r0 n).set (n % 16) (nextV (ringR r0 n) n)
def wordR (r0 : List Int) (n : Nat) : Int := if n < 16 then (ringR r0 n).getD (n % 16) 0 else nextV (ringR r0 n) n
theorem ringR_len (r0 : List Int) (h : r0.length = 16) : ∀ n, (ringR r0 n).length = 16
  | 0 => h
  | n + 1 => by
    unfold ringR
    by_cases hn : n < 16
    · rw [if_pos hn]; exact ringR_len r0 h n
    · rw [if_neg hn, List.length_set]; exact ringR_len r0 h n

end Go.Proofs.YtpogpfabnkgkfaaDoor
