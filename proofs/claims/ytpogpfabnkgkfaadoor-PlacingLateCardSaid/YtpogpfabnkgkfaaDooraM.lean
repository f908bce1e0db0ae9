/- The closure of slices.Chunk over bytes, walked: for every loop's body that keeps its two boxes. -/
import Derived.Test.YtpogpfabnkgkfaaDooraL
import Derived.RangeFuncNested
import Derived.RangeFuncBound
import Derived.RangeFuncCalls
import Derived.RangeFuncLeaves
import Derived.RangeFuncBox
import Derived.Shelf.Abstract
import Derived.Shelf.RegionOpen
import Derived.WalkKit
import Derived.OwnWalkIn
import Derived.TacticsInMore
import Derived.LoopNIn
import Derived.LoopIn
import Derived.Maps.AppendAt
namespace Go.Proofs.YtpogpfabnkgkfaaDoor
open Go.RowKit Go.BigFrame Go.Maps Go.Shelf Go.Sort
set_option maxRecDepth 100000

attribute [local go_sem] Oper.semAt_some

/-! slices.Chunk: its closure. -/
def partsOf (len k : Nat) : Nat := (len + k - 1) / k
def lenAt (len k i : Nat) : Nat := min k (len - k * i)
def uptoF (m j : Nat) : List (Fin m) := (List.finRange m).take j
theorem uptoF_succ (m j : Nat) (h : j < m) : uptoF m (j + 1) = uptoF m j ++ [⟨j, h⟩] := by
  unfold uptoF
  rw [List.take_succ_eq_append_getElem (by simpa using h)]
  simp
theorem uptoF_length (m j : Nat) (h : j ≤ m) : (uptoF m j).length = j := by simp [uptoF, h]
theorem uptoF_all (m : Nat) : uptoF m m = List.finRange m := by unfold uptoF; rw [List.take_of_length_le (by simp)]

/-- The two boxes that the closure reads hold what they held. -/
def KeepB (Bs Bn : Nat) (W W' : World) : Prop := W'.cell? ⟨Bs, 0, none⟩ = W.cell? ⟨Bs, 0, none⟩ ∧ W'.cell? ⟨Bn, 0, none⟩ = W.cell? ⟨Bn, 0, none⟩
theorem KeepB.refl (Bs Bn : Nat) (W : World) : KeepB Bs Bn W W := ⟨rfl, rfl⟩
theorem KeepB.trans {Bs Bn : Nat} {A B C : World} (h : KeepB Bs Bn A B) (k : KeepB Bs Bn B C) : KeepB Bs Bn A C := ⟨k.1.trans h.1, k.2.trans h.2⟩
theorem KeepB.below {Bs Bn n : Nat} {A B : World} (h : Below n A B) (h1 : Bs < n) (h2 : Bn < n) : KeepB Bs Bn A B := ⟨h.cell (p := ⟨Bs, 0, none⟩) h1, h.cell (p := ⟨Bn, 0, none⟩) h2⟩
theorem keepB_b {Bs Bn : Nat} {w : World} (h1 : Bs < w.heap.size) (h2 : Bn < w.heap.size) (W : World) (l : Nat) (o o' : Obj) (hl : w.heap.size ≤ l) (h : W.heap[l]? = some o) (hc : o.isCells = false) (hw : o.isWalk = false) : KeepB Bs Bn W (W.putObj l o') :=
  KeepB.below (belowK_b (Nat.le_refl _) W l o o' hl h hc hw) h1 h2

def encsB (b off len : Nat) (i : Fin (partsOf len 64)) : Array Value := #[.slice (some ⟨b, off + 64 * i.1 * 1, none⟩) (lenAt len 64 i.1) (lenAt len 64 i.1)]
set_option maxHeartbeats 2000000 in
theorem chunk1B (F : Fence) (n : Nat) (hf : F.fn 90) (hro : F.round = none) (hn : 1 ≤ n) (l Bs Bn b off len cap : Nat) (hreach : len ≤ 1099511627776) (hcap : len ≤ cap) (J Jx : List (Fin (partsOf len 64)) → World → Prop)
    (hJ : ∀ pre A, J pre A → J pre A.drew)
    (hY : ∀ pre x W, J pre W → pre.length < partsOf len 64 → YieldAt F (n - 1) Tryd.prog l (encsB b off len x) W fun e W' =>
      (e = .returned (.bool true) ∧ J (pre ++ [x]) W' ∧ KeepB Bs Bn W W') ∨ (e = .returned (.bool false) ∧ Jx (pre ++ [x]) W'))
    (W : World) (hBs : W.cell? ⟨Bs, 0, none⟩ = some (.slice (some ⟨b, off, none⟩) len cap)) (hBn : W.cell? ⟨Bn, 0, none⟩ = some (.int .i64 64)) (h0 : J [] W) :
    CallsIn F n Tryd.prog 90 #[.func (.yield l) #[] #[], .pointer (some ⟨Bs, 0, none⟩), .pointer (some ⟨Bn, 0, none⟩)] W fun e W' => (∃ v, e = .returned v) ∧
      ((∃ ys, ys = List.finRange (partsOf len 64) ∧ J ys W') ∨ (∃ pre, True ∧ Jx pre W')) := by
  refine callsIn_of_wp Tryd.func90 rfl hf ?_ hro
  simp only [Tryd.ntmps90, List.size_toArray, List.length_cons, List.length_nil, Nat.reduceAdd, Nat.reduceSub, Array.replicate_succ, Array.replicate_zero, List.push_toArray, List.append_toArray, List.nil_append, List.cons_append]
  gi_wp2
  gi_loopw [4] (fun iv wr => ∃ j i : Nat, j ≤ partsOf len 64 ∧ i = 64 * j ∧ iv = .int .i64 i ∧ J (uptoF (partsOf len 64) j) wr ∧ KeepB Bs Bn W wr)
    (fun i _ => (len + 64) - (intOf i).toNat)
  case atStart => exact ⟨0, 0, Nat.zero_le _, rfl, rfl, h0, KeepB.refl _ _ _⟩
  case round =>
    obtain ⟨j, i, hj, hi, rfl, hJs, hnx⟩ := hrel
    have hcs := hnx.1.trans hBs
    have hcn := hnx.2.trans hBn
    by_cases hlt : j < partsOf len 64
    · have hij : i < len := by unfold partsOf at hlt; omega
      have HN : Hid (i + 64 = 64 * (j + 1)) := by show _ = _; omega
      have hi2 : i ≤ 1099511627776 := by omega
      obtain ⟨fn, tmps, assign, body, hy, hR⟩ := hY _ ⟨j, hlt⟩ wr.drew (hJ _ _ hJs) (by rw [uptoF_length _ _ hj]; exact hlt)
      dsimp only [encsB] at hy
      have HJ1 := Lib.hid (uptoF_succ _ j hlt)
      clear hJs
      rw [← hi] at hy
      have he : lenAt len 64 j = min 64 (len - i) := by unfold lenAt; rw [hi]
      rw [he] at hy
      have HI := Lib.hid hi
      clear hi he
      have z1 : (0 : Int) ≤ (i : Int) := by omega
      have z2 : (i : Int) < (len : Int) := by omega
      have z3 : (i : Int) ≤ (cap : Int) := by omega
      have z4 : ¬ cap = i := by omega
      have z6 : i ≤ len := by omega
      have hme : min (64 : Int) ((len - i : Nat) : Int) = ((min 64 (len - i) : Nat) : Int) := by omega
      have he1 : 1 ≤ min 64 (len - i) := by omega
      have he2 : i + min 64 (len - i) ≤ len := by omega
      generalize min 64 (len - i) = ee at *
      have z5 : (i : Int) + (ee : Int) ≤ (len : Int) := by omega
      have z7 : (i : Int) ≤ (i : Int) + (ee : Int) := by omega
      have z8 : (i : Int) + (ee : Int) ≤ (cap : Int) := by omega
      have HEE : Hid (((i : Int) + (ee : Int)).toNat - i = ee) := by show _ = _; omega
      try simp only [Nat.mul_one] at hy
      gi_wp2
      gi_region
      all_goals
        gi_wp2
        refine hR.mono ?_
        rintro e W3 (⟨rfl, hJ3, hk3⟩ | ⟨rfl, hJx3⟩)
        · have hcs3 := hk3.1.trans hcs
          have hcn3 := hk3.2.trans hcn
          have HJ3 := Lib.hid hJ3
          clear hJ3
          gi_wp2
          go_roundw
          case rel => exact ⟨j + 1, i + 64, by omega, HN.out, by go_num, by rw [HJ1.out]; exact HJ3.out, hnx.trans hk3⟩
          case measure => simp [intOf]; omega
        · gi_wp2
          refine bodyPost_ret (results_none rfl _ _ _) rfl ?_
          exact ⟨⟨_, rfl⟩, .inr ⟨_, trivial, hJx3⟩⟩
    · obtain rfl : j = partsOf len 64 := by omega
      have hge : ¬ i < len := by unfold partsOf at hi; omega
      have HI := Lib.hid hi
      clear hi
      rw [uptoF_all] at hJs
      gi_wp2
      go_end0
      exact ⟨⟨_, rfl⟩, .inl ⟨_, rfl, hJs⟩⟩
end Go.Proofs.YtpogpfabnkgkfaaDoor
