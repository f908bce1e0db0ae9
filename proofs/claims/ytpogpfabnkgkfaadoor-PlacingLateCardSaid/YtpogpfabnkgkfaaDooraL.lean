/- proof.pair, walked: for ids of 32 bytes. -/
import Derived.Test.YtpogpfabnkgkfaaDooraK
namespace Go.Proofs.YtpogpfabnkgkfaaDoor
open Go.RowKit Go.BigFrame Go.Maps Go.Shelf Go.Sort
set_option maxRecDepth 100000

def pairS (a b : List UInt8) : List UInt8 := 1 :: (a ++ b)
def pairW (w : World) (a b : List UInt8) : World :=
  (((w.alloc (.cells (cellsOf a).toArray 30)).alloc (.cells (cellsOf b).toArray 30)).alloc (.cells #[.int .u8 1] 5)).alloc (.cells #[.slice (some ⟨w.heap.size + 1 + 1, 0, none⟩) 1 1, .slice (some ⟨w.heap.size, 0, none⟩) 32 32, .slice (some ⟨w.heap.size + 1, 0, none⟩) 32 32] 22)
theorem pair_parts (w : World) (a b : List UInt8) (ha : a.length = 32) (hb : b.length = 32) : PartsIn (pairW w a b) (w.heap.size + 1 + 1 + 1) 0 [.slice (some ⟨w.heap.size + 1 + 1, 0, none⟩) 1 1, .slice (some ⟨w.heap.size, 0, none⟩) 32 32, .slice (some ⟨w.heap.size + 1, 0, none⟩) 32 32] [[1], a, b] := by
  have hbl : ∀ (x : Obj), x = .cells (cellsOf a).toArray 30 → (pairW w a b).heap[w.heap.size]? = some x := fun x hx => by
    rw [hx]; unfold pairW
    rw [heap_alloc_old _ _ (by simp <;> omega), heap_alloc_old _ _ (by simp <;> omega)]; exact heap_alloc2_old _ _ _
  have h1 := hbl _ rfl
  clear hbl
  have h2 : (pairW w a b).heap[w.heap.size + 1]? = some (.cells (cellsOf b).toArray 30 (0, 0)) := by
    unfold pairW
    rw [heap_alloc_old _ _ (by simp <;> omega)]
    have e := heap_alloc2_old (w.alloc (.cells (cellsOf a).toArray 30)) (.cells (cellsOf b).toArray 30) (.cells #[.int .u8 1] 5)
    rwa [World.size_alloc] at e
  have h3 : (pairW w a b).heap[w.heap.size + 1 + 1]? = some (.cells #[.int .u8 1] 5 (0, 0)) := by
    unfold pairW
    have e := heap_alloc2_old ((w.alloc (.cells (cellsOf a).toArray 30)).alloc (.cells (cellsOf b).toArray 30)) (.cells #[.int .u8 1] 5) (.cells #[.slice (some ⟨w.heap.size + 1 + 1, 0, none⟩) 1 1, .slice (some ⟨w.heap.size, 0, none⟩) 32 32, .slice (some ⟨w.heap.size + 1, 0, none⟩) 32 32] 22)
    rwa [World.size_alloc, World.size_alloc] at e
  have h4 : (pairW w a b).heap[w.heap.size + 1 + 1 + 1]? = some (.cells #[.slice (some ⟨w.heap.size + 1 + 1, 0, none⟩) 1 1, .slice (some ⟨w.heap.size, 0, none⟩) 32 32, .slice (some ⟨w.heap.size + 1, 0, none⟩) 32 32] 22 (0, 0)) := by
    have e := heap_alloc_new (((w.alloc (.cells (cellsOf a).toArray 30)).alloc (.cells (cellsOf b).toArray 30)).alloc (.cells #[.int .u8 1] 5)) (.cells #[.slice (some ⟨w.heap.size + 1 + 1, 0, none⟩) 1 1, .slice (some ⟨w.heap.size, 0, none⟩) 32 32, .slice (some ⟨w.heap.size + 1, 0, none⟩) 32 32] 22)
    rwa [World.size_alloc, World.size_alloc, World.size_alloc] at e
  have hsz : (pairW w a b).heap.size = w.heap.size + 4 := by unfold pairW; simp
  generalize pairW w a b = W at *
  refine ⟨by omega, rfl, fun i v hi => ?_, fun i v l hi hl => ?_⟩
  · rw [cell_of_row _ _ _ _ _ _ h4, Nat.zero_add]; simpa using hi
  · match i, hi, hl with
    | 0, hi, hl =>
      simp only [List.getElem?_cons_zero, Option.some.injEq] at hi hl
      subst hi; subst hl
      exact ⟨w.heap.size + 1 + 1, 0, 1, rfl, by omega, fun j u hj => by rw [cell_of_row _ _ _ _ _ _ h3, Nat.zero_add]; simpa [cellsOf, u8v] using hj⟩
    | 1, hi, hl =>
      simp only [List.getElem?_cons_succ, List.getElem?_cons_zero, Option.some.injEq] at hi hl
      subst hi; subst hl
      exact ⟨w.heap.size, 0, 32, by rw [ha], by omega, fun j u hj => by rw [cell_of_row _ _ _ _ _ _ h1, Nat.zero_add]; simpa using hj⟩
    | 2, hi, hl =>
      simp only [List.getElem?_cons_succ, List.getElem?_cons_zero, Option.some.injEq] at hi hl
      subst hi; subst hl
      exact ⟨w.heap.size + 1, 0, 32, by rw [hb], by omega, fun j u hj => by rw [cell_of_row _ _ _ _ _ _ h2, Nat.zero_add]; simpa using hj⟩
theorem pair_below (w : World) (a b : List UInt8) : Below w.heap.size w (pairW w a b) :=
  ((((Below.refl _ _).alloc (Nat.le_refl _) _).alloc (by simp) _).alloc (by simp <;> omega) _).alloc (by simp <;> omega) _
theorem pair_concat (w : World) (a b : List UInt8) (ha : a.length = 32) (hb : b.length = 32) (k : Nat) (wq : World) (hq : wq = (pairW w a b).drewN k) :
    Calls Tryd.prog 75 #[.slice (some ⟨w.heap.size + 1 + 1 + 1, 0, none⟩) 3 3] wq fun e w' => ∃ v, e = .returned v ∧ w'.ownsRow w.heap.size 5 1 v (pairS a b).length (cellsOf (pairS a b)) ∧ Below w.heap.size w w' := by
  subst hq
  have hf : [[1], a, b].flatten = pairS a b := by simp [pairS]
  have hl : (pairS a b).length = 65 := by simp [pairS, ha, hb]
  have hc := concat_any (w.heap.size + 1 + 1 + 1) 0 3 _ [[1], a, b] ((pairW w a b).drewN k) (pair_parts w a b ha hb) (by rw [hf, hl]; omega) (by rw [hf, hl]; omega) (by show 3 ≤ _; omega)
  rw [hf] at hc
  refine hc.mono ?_
  rintro e w' ⟨v, h1, h2, h3⟩
  have hs : ((pairW w a b).drewN k).heap.size = w.heap.size + 4 := by show (pairW w a b).heap.size = _; unfold pairW; simp
  rw [hs] at h2 h3
  exact ⟨v, h1, row_base h2 (by omega), (bel_drewN (pair_below w a b) k).trans (h3.mono (by omega))⟩

set_option maxHeartbeats 2000000 in
theorem pair_any (a b : List UInt8) (ha : a.length = 32) (hb : b.length = 32) (w : World) :
    Calls Tryd.prog 64 #[.agg (cellsOf a).toArray, .agg (cellsOf b).toArray] w fun e w' => ∃ v, e = .returned v ∧ w'.ownsRow w.heap.size 5 1 v (pairS a b).length (cellsOf (pairS a b)) ∧ Below w.heap.size w w' := by
  have HC := Lib.hid (fun k wq hq => pair_concat w a b ha hb k wq hq)
  go_enter Tryd.func64, Tryd.ntmps64
  go_wp2
  go_region_with (go_at_call 75; refine (HC.out 1 _ rfl).mono ?_; rintro e w1 ⟨v, rfl, h1, h2⟩)
  all_goals (go_wp2; go_ret; exact ⟨v, rfl, h1, h2⟩)
end Go.Proofs.YtpogpfabnkgkfaaDoor
