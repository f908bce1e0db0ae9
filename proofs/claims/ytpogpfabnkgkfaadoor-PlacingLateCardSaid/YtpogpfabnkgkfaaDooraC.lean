/- digest.first, walked; the words of sixty-four bytes. -/
import Derived.Test.YtpogpfabnkgkfaaDooraB
namespace Go.Proofs.YtpogpfabnkgkfaaDoor
open Go.RowKit Go.BigFrame Go.Maps Go.Shelf Go.Sort
set_option maxRecDepth 100000

def firstV : List Int := [1779033703, 3144134277, 1013904242, 2773480762, 1359893119, 2600822924, 528734635, 1541459225]
theorem first_any (w : World) : Calls Tryd.prog 66 #[] w fun e w' => e = .returned (.agg (wordsOf firstV)) ∧ Below w.heap.size w w' := by
  go_enter Tryd.func66, Tryd.ntmps66
  go_wp2
  refine bodyPost_ret (results_cell_row rfl _ _ w.heap.size 104 (wordsOf firstV) (0, 0) _ rfl (heap_alloc_new _ _) (by kernel_rfl : Tryd.prog.underlying 104 = some (.array 8 103)) rfl (by kernel_rfl)) rfl ⟨rfl, (Below.refl _ _).alloc (Nat.le_refl _) _⟩

/-! Sixteen words out of sixty-four bytes. -/
def shlOr (acc : Int) (c : UInt8) : Int := bits .or .u32 (IntKind.u32.wrap (acc * 2 ^ 8)) (c.toNat : Int)
def wordAt (bs : List UInt8) (i m : Nat) : Int := ((bs.drop (4 * i)).take m).foldl shlOr 0
def ringAt (bs : List UInt8) (i m : Nat) : List Int := (List.range 16).map fun j => if j < i then wordAt bs j 4 else if j = i then wordAt bs j m else 0
theorem ringAt_len (bs : List UInt8) (i m : Nat) : (ringAt bs i m).length = 16 := by simp [ringAt]
theorem ringAt_next (bs : List UInt8) (i : Nat) : ringAt bs i 4 = ringAt bs (i + 1) 0 := by
  unfold ringAt
  apply List.map_congr_left
  intro j _
  rcases Nat.lt_trichotomy j i with h | h | h
  · rw [if_pos h, if_pos (by omega)]
  · rw [if_neg (by omega), if_pos h, if_pos (by omega)]
  · rw [if_neg (by omega), if_neg (by omega), if_neg (by omega)]
    by_cases h2 : j = i + 1
    · rw [if_pos h2]; simp [wordAt]
    · rw [if_neg h2]
theorem ringAt_zero (bs : List UInt8) : ringAt bs 0 0 = List.replicate 16 0 := by
  have h0 : ∀ j, wordAt bs j 0 = 0 := fun j => by simp [wordAt]
  simp only [ringAt, h0]
  simp
  rfl
theorem wordAt_succ (bs : List UInt8) (i m : Nat) (h : 4 * i + m < bs.length) : wordAt bs i (m + 1) = shlOr (wordAt bs i m) (bs[4 * i + m]'h) := by
  unfold wordAt
  rw [List.take_add_one, List.foldl_append]
  simp [h]
end Go.Proofs.YtpogpfabnkgkfaaDoor
