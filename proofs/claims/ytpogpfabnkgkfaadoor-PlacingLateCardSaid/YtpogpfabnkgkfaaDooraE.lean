/- One round of the digest, and what the rounds leave. -/
import Derived.Test.YtpogpfabnkgkfaaDooraD
namespace Go.Proofs.YtpogpfabnkgkfaaDoor
open Go.RowKit Go.BigFrame Go.Maps Go.Shelf Go.Sort
set_option maxRecDepth 100000

/-! One round, and what the rounds leave. -/
def notS (x : Int) : Int := bits .xor .u32 IntKind.u32.max x
def chS (e f g : Int) : Int := xorS (andS e f) (andS (notS e) g)
def majS (a b c : Int) : Int := xorS (xorS (andS a b) (andS a c)) (andS b c)
def tS (e f g h k w : Int) : Int := (h + three6 e + chS e f g + k + w) % 4294967296
def uS (a b c : Int) : Int := (three2 a + majS a b c) % 4294967296
def roundS : List Int → Int → Int → List Int
  | [a, b, c, d, e, f, g, h], k, w => [addS (tS e f g h k w) (uS a b c), a, b, c, addS d (tS e f g h k w), e, f, g]
  | l, _, _ => l
theorem roundS_len (l : List Int) (k w : Int) : (roundS l k w).length = l.length := by
  unfold roundS
  split <;> rfl
def stateR (h0 r0 : List Int) : Nat → List Int
  | 0 => h0
  | n + 1 => roundS (stateR h0 r0 n) (roundsV.getD n 0) (wordR r0 n)
theorem stateR_len (h0 r0 : List Int) : ∀ n, (stateR h0 r0 n).length = h0.length
  | 0 => rfl
  | n + 1 => by rw [stateR, roundS_len, stateR_len h0 r0 n]
theorem eight (l : List Int) (h : l.length = 8) : ∃ a b c d e f g i, l = [a, b, c, d, e, f, g, i] := by
  match l, h with
  | [a, b, c, d, e, f, g, i], _ => exact ⟨a, b, c, d, e, f, g, i, rfl⟩
/-- The first m of the sums have been made. -/
def sumR (h v : List Int) (m : Nat) : List Int := (List.range 8).map fun j => if j < m then addS (h.getD j 0) (v.getD j 0) else h.getD j 0
def takeS (h : List Int) (bs : List UInt8) : List Int := sumR h (stateR h (ringAt bs 16 0) 64) 8
theorem sumR_len (h v : List Int) (m : Nat) : (sumR h v m).length = 8 := by simp [sumR]
theorem sumR_zero (h v : List Int) (hh : h.length = 8) : sumR h v 0 = h := by
  obtain ⟨a, b, c, d, e, f, g, i, rfl⟩ := eight h hh
  rfl
theorem sumR_at (h v : List Int) (m : Nat) (hm : m < 8) : (sumR h v m).getD m 0 = h.getD m 0 := by simp [sumR, List.getD, hm]
theorem sumR_set (h v : List Int) (m : Nat) (hm : m < 8) : (sumR h v m).set m (addS (h.getD m 0) (v.getD m 0)) = sumR h v (m + 1) := by
  apply List.ext_getElem?
  intro j
  by_cases hj : j < 8
  · rw [List.getElem?_set]
    by_cases e : m = j
    · subst e
      simp [sumR, hm]
    · rw [if_neg e]
      have e' : (j < m + 1) = (j < m) := by apply propext; omega
      simp [sumR, hj, e']
  · rw [List.getElem?_eq_none (by rw [List.length_set, sumR_len]; omega), List.getElem?_eq_none (by rw [sumR_len]; omega)]

structure RoundAt (w0 : World) (B2 B4 B5 B9 : Nat) (h r v : List Int) (w : World) : Prop where
  t : TakeAt w0 B2 B4 B5 h r w
  vv : w.heap[B9]? = some (.cells (wordsOf v) 104 (0, 0))
  new9 : w0.heap.size ≤ B9
  ne2 : B2 ≠ B9
  ne4 : B4 ≠ B9
theorem RoundAt.start {w0 w : World} {B2 B4 B5 : Nat} {h r : List Int} (k : TakeAt w0 B2 B4 B5 h r w) : RoundAt w0 B2 B4 B5 w.heap.size h r h (w.alloc (.cells (wordsOf h) 104)) := by
  have lt : ∀ {b : Nat} {o : Obj}, w.heap[b]? = some o → b < w.heap.size := fun hb => by
    obtain ⟨hlt, _⟩ := Array.getElem?_eq_some_iff.1 hb; exact hlt
  refine ⟨⟨?_, ?_, ?_, k.below.alloc k.below.size _, k.new⟩, heap_alloc_new _ _, k.below.size, ?_, ?_⟩
  · rw [heap_alloc_old _ _ (lt k.hh)]; exact k.hh
  · rw [heap_alloc_old _ _ (lt k.out)]; exact k.out
  · rw [heap_alloc_old _ _ (lt k.ring)]; exact k.ring
  · have := lt k.hh; omega
  · have := lt k.out; omega
theorem RoundAt.drewN {w0 w : World} {B2 B4 B5 B9 : Nat} {h r v : List Int} (k : RoundAt w0 B2 B4 B5 B9 h r v w) (m : Nat) : RoundAt w0 B2 B4 B5 B9 h r v (w.drewN m) :=
  ⟨⟨k.t.hh, k.t.out, k.t.ring, bel_drewN k.t.below m, k.t.new⟩, k.vv, k.new9, k.ne2, k.ne4⟩
theorem RoundAt.setRing {w0 w : World} {B2 B4 B5 B9 : Nat} {h r v : List Int} (k : RoundAt w0 B2 B4 B5 B9 h r v w) (j : Nat) (x : Int) : RoundAt w0 B2 B4 B5 B9 h (r.set j x) v (w.setCell ⟨B5, j, none⟩ (.int .u32 x)) := by
  refine ⟨k.t.set j x, ?_, k.new9, k.ne2, k.ne4⟩
  rw [Below.heap_setCell _ _ _ _ (ne_block k.vv k.t.ring (by decide))]; exact k.vv
theorem RoundAt.setH {w0 w : World} {B2 B4 B5 B9 : Nat} {h r v : List Int} (k : RoundAt w0 B2 B4 B5 B9 h r v w) (j : Nat) (x : Int) : RoundAt w0 B2 B4 B5 B9 (h.set j x) r v (w.setCell ⟨B2, j, none⟩ (.int .u32 x)) := by
  refine ⟨⟨?_, ?_, ?_, k.t.below.setCell (p := ⟨B2, j, none⟩) k.t.new.1 _, k.t.new⟩, ?_, k.new9, k.ne2, k.ne4⟩
  · rw [heap_setCell_same _ _ _ _ _ _ _ k.t.hh, words_set]
  · rw [Below.heap_setCell _ _ _ _ (fun e => k.t.new.2.2.2 e.symm)]; exact k.t.out
  · rw [Below.heap_setCell _ _ _ _ (ne_block k.t.ring k.t.hh (by decide))]; exact k.t.ring
  · rw [Below.heap_setCell _ _ _ _ (fun e => k.ne2 e.symm)]; exact k.vv
theorem RoundAt.setV {w0 w : World} {B2 B4 B5 B9 : Nat} {h r v : List Int} (k : RoundAt w0 B2 B4 B5 B9 h r v w) (v' : List Int) : RoundAt w0 B2 B4 B5 B9 h r v' (w.setRow B9 (wordsOf v')) := by
  refine ⟨⟨?_, ?_, ?_, k.t.below.trans ⟨rfl, rfl, rfl, by simp [World.setRow], fun i hi => setRow_other w B9 i _ (by have := k.new9; omega)⟩, k.t.new⟩, setRow_heap _ _ _ _ _ _ k.vv, k.new9, k.ne2, k.ne4⟩
  · rw [setRow_other _ _ _ _ k.ne2]; exact k.t.hh
  · rw [setRow_other _ _ _ _ k.ne4]; exact k.t.out
  · rw [setRow_other _ _ _ _ (ne_block k.t.ring k.vv (by decide))]; exact k.t.ring
end Go.Proofs.YtpogpfabnkgkfaaDoor
