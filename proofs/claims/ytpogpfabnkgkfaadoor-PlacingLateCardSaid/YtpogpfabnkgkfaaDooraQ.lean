/- slices.Chunk over ids, walked. -/
import Derived.Test.YtpogpfabnkgkfaaDooraP
namespace Go.Proofs.YtpogpfabnkgkfaaDoor
open Go.RowKit Go.BigFrame Go.Maps Go.Shelf Go.Sort
set_option maxRecDepth 100000

attribute [local go_sem] Oper.semAt_some

def encsI (b off len : Nat) (i : Fin (partsOf len 2)) : Array Value := #[.slice (some ⟨b, off + 2 * i.1 * 32, none⟩) (lenAt len 2 i.1) (lenAt len 2 i.1)]
set_option maxHeartbeats 2000000 in
theorem chunk1I (F : Fence) (n : Nat) (hf : F.fn 74) (hro : F.round = none) (hn : 1 ≤ n) (l Bs Bn b off len cap : Nat) (hreach : len ≤ 1099511627776) (hcap : len ≤ cap) (J Jx : List (Fin (partsOf len 2)) → World → Prop)
    (hJ : ∀ pre A, J pre A → J pre A.drew)
    (hY : ∀ pre x W, J pre W → pre.length < partsOf len 2 → YieldAt F (n - 1) Tryd.prog l (encsI b off len x) W fun e W' =>
      (e = .returned (.bool true) ∧ J (pre ++ [x]) W' ∧ KeepB Bs Bn W W') ∨ (e = .returned (.bool false) ∧ Jx (pre ++ [x]) W'))
    (W : World) (hBs : W.cell? ⟨Bs, 0, none⟩ = some (.slice (some ⟨b, off, none⟩) len cap)) (hBn : W.cell? ⟨Bn, 0, none⟩ = some (.int .i64 2)) (h0 : J [] W) :
    CallsIn F n Tryd.prog 74 #[.func (.yield l) #[] #[], .pointer (some ⟨Bs, 0, none⟩), .pointer (some ⟨Bn, 0, none⟩)] W fun e W' => (∃ v, e = .returned v) ∧
      ((∃ ys, ys = List.finRange (partsOf len 2) ∧ J ys W') ∨ (∃ pre, True ∧ Jx pre W')) := by
  refine callsIn_of_wp Tryd.func74 rfl hf ?_ hro
  simp only [Tryd.ntmps74, List.size_toArray, List.length_cons, List.length_nil, Nat.reduceAdd, Nat.reduceSub, Array.replicate_succ, Array.replicate_zero, List.push_toArray, List.append_toArray, List.nil_append, List.cons_append]
  gi_wp2
  gi_loopw [4] (fun iv wr => ∃ j i : Nat, j ≤ partsOf len 2 ∧ i = 2 * j ∧ iv = .int .i64 i ∧ J (uptoF (partsOf len 2) j) wr ∧ KeepB Bs Bn W wr)
    (fun i _ => (len + 2) - (intOf i).toNat)
  case atStart => exact ⟨0, 0, Nat.zero_le _, rfl, rfl, h0, KeepB.refl _ _ _⟩
  case round =>
    obtain ⟨j, i, hj, hi, rfl, hJs, hnx⟩ := hrel
    have hcs := hnx.1.trans hBs
    have hcn := hnx.2.trans hBn
    by_cases hlt : j < partsOf len 2
    · have hij : i < len := by unfold partsOf at hlt; omega
      have HN : Hid (i + 2 = 2 * (j + 1)) := by show _ = _; omega
      have hi2 : i ≤ 1099511627776 := by omega
      obtain ⟨fn, tmps, assign, body, hy, hR⟩ := hY _ ⟨j, hlt⟩ wr.drew (hJ _ _ hJs) (by rw [uptoF_length _ _ hj]; exact hlt)
      dsimp only [encsI] at hy
      have HJ1 := Lib.hid (uptoF_succ _ j hlt)
      clear hJs
      rw [← hi] at hy
      have he : lenAt len 2 j = min 2 (len - i) := by unfold lenAt; rw [hi]
      rw [he] at hy
      have HI := Lib.hid hi
      clear hi he
      have z1 : (0 : Int) ≤ (i : Int) := by omega
      have z2 : (i : Int) < (len : Int) := by omega
      have z3 : (i : Int) ≤ (cap : Int) := by omega
      have z4 : ¬ cap = i := by omega
      have z6 : i ≤ len := by omega
      have hme : min (2 : Int) ((len - i : Nat) : Int) = ((min 2 (len - i) : Nat) : Int) := by omega
      have he1 : 1 ≤ min 2 (len - i) := by omega
      have he2 : i + min 2 (len - i) ≤ len := by omega
      generalize min 2 (len - i) = ee at *
      have z5 : (i : Int) + (ee : Int) ≤ (len : Int) := by omega
      have z7 : (i : Int) ≤ (i : Int) + (ee : Int) := by omega
      have z8 : (i : Int) + (ee : Int) ≤ (cap : Int) := by omega
      have HEE : Hid (((i : Int) + (ee : Int)).toNat - i = ee) := by show _ = _; omega
      try simp only [Nat.mul_one] at hy
      gi_wp2
      gi_region
      all_goals
        gi_wp2
        refine hR.mono ?_
        rintro e W3 (⟨rfl, hJ3, hk3⟩ | ⟨rfl, hJx3⟩)
        · have hcs3 := hk3.1.trans hcs
          have hcn3 := hk3.2.trans hcn
          have HJ3 := Lib.hid hJ3
          clear hJ3
          gi_wp2
          go_roundw
          case rel => exact ⟨j + 1, i + 2, by omega, HN.out, by go_num, by rw [HJ1.out]; exact HJ3.out, hnx.trans hk3⟩
          case measure => simp [intOf]; omega
        · gi_wp2
          refine bodyPost_ret (results_none rfl _ _ _) rfl ?_
          exact ⟨⟨_, rfl⟩, .inr ⟨_, trivial, hJx3⟩⟩
    · obtain rfl : j = partsOf len 2 := by omega
      have hge : ¬ i < len := by unfold partsOf at hi; omega
      have HI := Lib.hid hi
      clear hi
      rw [uptoF_all] at hJs
      gi_wp2
      go_end0
      exact ⟨⟨_, rfl⟩, .inl ⟨_, rfl, hJs⟩⟩
set_option maxHeartbeats 1000000 in
theorem chunkI_any (a : Option Addr) (len cap : Nat) (w : World) :
    Calls Tryd.prog 63 #[.slice a len cap, .int .i64 2] w fun e w' => e = .returned (.func (.func 74) #[] #[.pointer (some ⟨w.heap.size, 0, none⟩), .pointer (some ⟨w.heap.size + 1, 0, none⟩)]) ∧
      w' = (w.alloc (.cells #[.slice a len cap] 36)).alloc (.cells #[.int .i64 2] 3) := by
  go_enter Tryd.func63, Tryd.ntmps63
  go_wp2
  go_ret
  exact ⟨rfl, rfl⟩
theorem chunkI_stops (n : Nat) (hn : 1 ≤ n) (Bs Bn b off len cap : Nat) (hreach : len ≤ 1099511627776) (hcap : len ≤ cap) (w : World) (hBs0 : Bs < w.heap.size) (hBn0 : Bn < w.heap.size)
    (hBs : w.cell? ⟨Bs, 0, none⟩ = some (.slice (some ⟨b, off, none⟩) len cap)) (hBn : w.cell? ⟨Bn, 0, none⟩ = some (.int .i64 2)) :
    SeqStopsK Fence.wide n Tryd.prog 74 #[.pointer (some ⟨Bs, 0, none⟩), .pointer (some ⟨Bn, 0, none⟩)] (encsI b off len) (KeepB Bs Bn) (fun ys => ys = List.finRange (partsOf len 2)) (fun _ => True) (partsOf len 2) w := fun l J Jx W hW hJ _ hY h0 =>
  chunk1I Fence.wide n trivial rfl hn l Bs Bn b off len cap hreach hcap J Jx (fun pre A h => hJ pre A _ none h (grownBy_drew A) (fun r e => by cases e)) hY W
    ((hW.cell (p := ⟨Bs, 0, none⟩) hBs0).trans hBs) ((hW.cell (p := ⟨Bn, 0, none⟩) hBn0).trans hBn) h0
end Go.Proofs.YtpogpfabnkgkfaaDoor
