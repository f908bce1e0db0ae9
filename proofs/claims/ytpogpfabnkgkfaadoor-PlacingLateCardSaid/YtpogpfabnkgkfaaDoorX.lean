/- The law's model, reckoned for one to ten partners. -/
import Derived.Test.YtpogpfabnkgkfaaDoorW
namespace Go.Proofs.YtpogpfabnkgkfaaDoor
open Go.RowKit Go.BigFrame Go.Maps Go.Shelf Go.Sort
set_option maxRecDepth 100000

/-! What the law sees, over the model. -/
def ints (n : Nat) : List Int := (List.range n).map fun j : Nat => (j : Int)
def stL : Nat → Int → Int × Int
  | 0 => none0
  | 1 => upd none0 0 (1, 0)
  | i + 2 => upd (upd (stL (i + 1)) i (4, 0)) (i + 1 : Nat) (1, ((i + 1) * 8 : Nat))
def mL (n : Nat) (y b : List UInt8) (i : Nat) : PM := ⟨1, ints n, [⟨y, b, stL i⟩]⟩
def mF (n : Nat) (y b : List UInt8) : PM := ⟨1, ints n, [⟨y, b, upd (stL n) (n - 1 : Nat) (4, 0)⟩]⟩
def mR (n : Nat) (y b : List UInt8) : PM := ⟨1, ints n, [⟨y, b, retrySt (upd (stL n) (n - 1 : Nat) (4, 0))⟩]⟩
theorem late_step (y b : List UInt8) (n i : Nat) (hn : n ≤ 10) (hi : i < n) : nextTo ((i * 8 : Nat) : Int) (mL n y b i) 1 = (mL n y b (i + 1), [⟨i, y, b.length⟩]) := by
  have h : n = 1 ∨ n = 2 ∨ n = 3 ∨ n = 4 ∨ n = 5 ∨ n = 6 ∨ n = 7 ∨ n = 8 ∨ n = 9 ∨ n = 10 := by omega
  rcases h with rfl | rfl | rfl | rfl | rfl | rfl | rfl | rfl | rfl | rfl
  · have h : i = 0 := by omega
    subst h
    show _ = _
    kernel_rfl
  · have h : i = 0 ∨ i = 1 := by omega
    rcases h with rfl | rfl <;> (show _ = _; kernel_rfl)
  · have h : i = 0 ∨ i = 1 ∨ i = 2 := by omega
    rcases h with rfl | rfl | rfl <;> (show _ = _; kernel_rfl)
  · have h : i = 0 ∨ i = 1 ∨ i = 2 ∨ i = 3 := by omega
    rcases h with rfl | rfl | rfl | rfl <;> (show _ = _; kernel_rfl)
  · have h : i = 0 ∨ i = 1 ∨ i = 2 ∨ i = 3 ∨ i = 4 := by omega
    rcases h with rfl | rfl | rfl | rfl | rfl <;> (show _ = _; kernel_rfl)
  · have h : i = 0 ∨ i = 1 ∨ i = 2 ∨ i = 3 ∨ i = 4 ∨ i = 5 := by omega
    rcases h with rfl | rfl | rfl | rfl | rfl | rfl <;> (show _ = _; kernel_rfl)
  · have h : i = 0 ∨ i = 1 ∨ i = 2 ∨ i = 3 ∨ i = 4 ∨ i = 5 ∨ i = 6 := by omega
    rcases h with rfl | rfl | rfl | rfl | rfl | rfl | rfl <;> (show _ = _; kernel_rfl)
  · have h : i = 0 ∨ i = 1 ∨ i = 2 ∨ i = 3 ∨ i = 4 ∨ i = 5 ∨ i = 6 ∨ i = 7 := by omega
    rcases h with rfl | rfl | rfl | rfl | rfl | rfl | rfl | rfl <;> (show _ = _; kernel_rfl)
  · have h : i = 0 ∨ i = 1 ∨ i = 2 ∨ i = 3 ∨ i = 4 ∨ i = 5 ∨ i = 6 ∨ i = 7 ∨ i = 8 := by omega
    rcases h with rfl | rfl | rfl | rfl | rfl | rfl | rfl | rfl | rfl <;> (show _ = _; kernel_rfl)
  · have h : i = 0 ∨ i = 1 ∨ i = 2 ∨ i = 3 ∨ i = 4 ∨ i = 5 ∨ i = 6 ∨ i = 7 ∨ i = 8 ∨ i = 9 := by omega
    rcases h with rfl | rfl | rfl | rfl | rfl | rfl | rfl | rfl | rfl | rfl <;> (show _ = _; kernel_rfl)
theorem late_quiet (y b : List UInt8) (n i : Nat) (hn : n ≤ 10) (hi : i < n) : nextTo ((i * 8 + 7 : Nat) : Int) (mL n y b (i + 1)) 1 = (mL n y b (i + 1), []) := by
  have h : n = 1 ∨ n = 2 ∨ n = 3 ∨ n = 4 ∨ n = 5 ∨ n = 6 ∨ n = 7 ∨ n = 8 ∨ n = 9 ∨ n = 10 := by omega
  rcases h with rfl | rfl | rfl | rfl | rfl | rfl | rfl | rfl | rfl | rfl
  · have h : i = 0 := by omega
    subst h
    show _ = _
    kernel_rfl
  · have h : i = 0 ∨ i = 1 := by omega
    rcases h with rfl | rfl <;> (show _ = _; kernel_rfl)
  · have h : i = 0 ∨ i = 1 ∨ i = 2 := by omega
    rcases h with rfl | rfl | rfl <;> (show _ = _; kernel_rfl)
  · have h : i = 0 ∨ i = 1 ∨ i = 2 ∨ i = 3 := by omega
    rcases h with rfl | rfl | rfl | rfl <;> (show _ = _; kernel_rfl)
  · have h : i = 0 ∨ i = 1 ∨ i = 2 ∨ i = 3 ∨ i = 4 := by omega
    rcases h with rfl | rfl | rfl | rfl | rfl <;> (show _ = _; kernel_rfl)
  · have h : i = 0 ∨ i = 1 ∨ i = 2 ∨ i = 3 ∨ i = 4 ∨ i = 5 := by omega
    rcases h with rfl | rfl | rfl | rfl | rfl | rfl <;> (show _ = _; kernel_rfl)
  · have h : i = 0 ∨ i = 1 ∨ i = 2 ∨ i = 3 ∨ i = 4 ∨ i = 5 ∨ i = 6 := by omega
    rcases h with rfl | rfl | rfl | rfl | rfl | rfl | rfl <;> (show _ = _; kernel_rfl)
  · have h : i = 0 ∨ i = 1 ∨ i = 2 ∨ i = 3 ∨ i = 4 ∨ i = 5 ∨ i = 6 ∨ i = 7 := by omega
    rcases h with rfl | rfl | rfl | rfl | rfl | rfl | rfl | rfl <;> (show _ = _; kernel_rfl)
  · have h : i = 0 ∨ i = 1 ∨ i = 2 ∨ i = 3 ∨ i = 4 ∨ i = 5 ∨ i = 6 ∨ i = 7 ∨ i = 8 := by omega
    rcases h with rfl | rfl | rfl | rfl | rfl | rfl | rfl | rfl | rfl <;> (show _ = _; kernel_rfl)
  · have h : i = 0 ∨ i = 1 ∨ i = 2 ∨ i = 3 ∨ i = 4 ∨ i = 5 ∨ i = 6 ∨ i = 7 ∨ i = 8 ∨ i = 9 := by omega
    rcases h with rfl | rfl | rfl | rfl | rfl | rfl | rfl | rfl | rfl | rfl <;> (show _ = _; kernel_rfl)
theorem late_last (y b : List UInt8) (n : Nat) (hn : n ≤ 10) (h1 : 1 ≤ n) : nextTo ((n * 8 : Nat) : Int) (mL n y b n) 1 = (mF n y b, []) := by
  have h : n = 1 ∨ n = 2 ∨ n = 3 ∨ n = 4 ∨ n = 5 ∨ n = 6 ∨ n = 7 ∨ n = 8 ∨ n = 9 ∨ n = 10 := by omega
  rcases h with rfl | rfl | rfl | rfl | rfl | rfl | rfl | rfl | rfl | rfl <;> (show _ = _; kernel_rfl)
theorem late_retry (y b : List UInt8) (n : Nat) (hn : n ≤ 10) (h1 : 1 ≤ n) : retryTo (mF n y b) 1 = mR n y b := by
  have h : n = 1 ∨ n = 2 ∨ n = 3 ∨ n = 4 ∨ n = 5 ∨ n = 6 ∨ n = 7 ∨ n = 8 ∨ n = 9 ∨ n = 10 := by omega
  rcases h with rfl | rfl | rfl | rfl | rfl | rfl | rfl | rfl | rfl | rfl <;> (show _ = _; kernel_rfl)
theorem late_again (y b : List UInt8) (n : Nat) (hn : n ≤ 10) (h1 : 1 ≤ n) : (nextTo ((n * 8 + 1 : Nat) : Int) (mR n y b) 1).2 = [⟨0, y, b.length⟩] := by
  have h : n = 1 ∨ n = 2 ∨ n = 3 ∨ n = 4 ∨ n = 5 ∨ n = 6 ∨ n = 7 ∨ n = 8 ∨ n = 9 ∨ n = 10 := by omega
  rcases h with rfl | rfl | rfl | rfl | rfl | rfl | rfl | rfl | rfl | rfl <;> (show _ = _; kernel_rfl)
theorem ints_len (n : Nat) : (ints n).length = n := by simp [ints]
theorem ints_nodes (n : Nat) (h : n ≤ 64) : ∀ p ∈ ints n, 0 ≤ p ∧ p < 64 := fun p hp => by
  obtain ⟨j, hj, rfl⟩ := List.mem_map.1 hp
  have := List.mem_range.1 hj
  omega
theorem ints_sorted (n : Nat) : (ints n).Pairwise (· < ·) := by
  unfold ints
  rw [List.pairwise_map]
  exact List.pairwise_lt_range.imp (fun h => by omega)
theorem ints_at (n j : Nat) (h : j < n) : (ints n).getD j 0 = j := by simp [ints, List.getD, h]

set_option maxHeartbeats 1000000 in
theorem handle_nil (who now : Int) (q : NIn) (hq : q.id.length = 32) (w : World) :
    Calls Tryd.prog 9 #[.pointer none, .int .i64 who, .agg q.cells.toArray, .int .u64 now] w fun e w' => e = .returned (.slice none 0 0) ∧ Below w.heap.size w w' := by
  have HXL : Hid ((Tryd.prog.info? 30).map (·.size) = some (cellsOf q.id).length) := by show _ = _; rw [Tryd.sizeId]; simp [hq]
  have HB : Hid (Below w.heap.size w (w.alloc (.cells q.cells.toArray 38))) := (Below.refl _ _).alloc (Nat.le_refl _) _
  have HR : Hid ((w.alloc (.cells q.cells.toArray 38)).rangeAt w.heap.size 1 (cellsOf q.id)) := fun j v hj => by
    rw [cell_of_row _ _ _ _ _ _ (heap_alloc_new _ _)]
    have hlt : j < (cellsOf q.id).length := (List.getElem?_eq_some_iff.1 hj).1
    simp only [List.getElem?_toArray, NIn.cells, Nat.add_comm 1 j, List.getElem?_cons_succ]
    rw [List.getElem?_append_left hlt, hj]
  generalize q.cells.toArray = nc at *
  go_enter Tryd.func9, Tryd.ntmps9
  go_wp2_with (first
    | ((with_reducible refine wpList_load_mid rfl 30 _ rfl w.heap.size 1 ?_ (cellsOf q.id) _ ?_ Tryd.undId rfl HXL.out ?_); (rfl); (exact HR.out))
    | (go_at_call 18; refine (find_nil _ _ q.id rfl).mono ?_; rintro e w1 ⟨rfl, hb⟩; have H1 := Lib.hid (HB.out.trans (hb.mono HB.out.size)); clear hb))
  go_ret
  exact ⟨rfl, H1.out⟩
end Go.Proofs.YtpogpfabnkgkfaaDoor
