/- slices.Index and Contains; the methods of a placer that is none. -/
import Derived.Test.YtpogpfabnkgkfaaDoorT
namespace Go.Proofs.YtpogpfabnkgkfaaDoor
open Go.RowKit Go.BigFrame Go.Maps Go.Shelf Go.Sort
set_option maxRecDepth 100000

set_option maxHeartbeats 1000000 in
theorem index_any (b o cap : Nat) (xs : List Int) (x : Int) (w : World) (hlen : xs.length ≤ 1000) (hc : ∀ j, j < xs.length → w.cell? ⟨b, o + j, none⟩ = some (.int .i64 (xs.getD j 0))) :
    Calls Tryd.prog 46 #[.slice (some ⟨b, o, none⟩) xs.length cap, .int .i64 x] w fun e w' => (∃ r : Int, e = .returned (.int .i64 r) ∧ -1 ≤ r ∧ r < xs.length ∧ (0 ≤ r ↔ x ∈ xs)) ∧ w' = w := by
  have HC := Lib.hid hc
  clear hc
  go_enter Tryd.func46, Tryd.ntmps46
  go_wp2
  go_loopw [5, 8] (fun _ cn wr => wr = w ∧ ∃ k : Nat, k ≤ xs.length ∧ cn = .int .i64 k ∧ Hid (∀ j, j < k → xs.getD j 0 ≠ x)) (fun _ cn _ => xs.length - (intOf cn).toNat)
  case atStart => exact ⟨rfl, 0, Nat.zero_le _, rfl, Lib.hid (fun j hj => absurd hj (Nat.not_lt_zero _))⟩
  case round =>
    obtain ⟨rfl, k, hk, rfl, HN⟩ := hrel
    by_cases hlt : k < xs.length
    · have hck := HC.out k hlt
      have HM : Hid (xs.getD k 0 ∈ xs) := by show _ ∈ _; simp [List.getD, hlt]
      generalize hy : xs.getD k 0 = y at *
      have HY := Lib.hid hy
      clear hy
      by_cases hx : x = y
      · subst hx
        have d1 : decide (x = x) = true := decide_eq_true rfl
        have d2 : (x == x) = true := by simp
        go_wp2
        go_ret
        exact ⟨⟨k, rfl, by omega, by omega, fun _ => HM.out, fun _ => by omega⟩, rfl⟩
      · have d1 : decide (x = y) = false := decide_eq_false hx
        have d2 : (x == y) = false := by simpa using hx
        have HX := Lib.hid hx
        clear hx
        go_wp2
        go_roundw
        case rel => exact ⟨by first | rfl | trivial, k + 1, by omega, by go_num, Lib.hid (fun j hj => by
          rcases Nat.lt_or_ge j k with h | h
          · exact HN.out j h
          · have : j = k := by omega
            subst this; rw [HY.out]; exact fun e => HX.out e.symm)⟩
        case measure => simp [intOf]; omega
    · obtain rfl : k = xs.length := by omega
      go_wp2
      go_ret
      exact ⟨⟨-1, rfl, by omega, by omega, fun h => absurd h (by decide), fun h => by
        obtain ⟨i, hi, e⟩ := List.getElem_of_mem h
        have := HN.out i hi
        simp [List.getD, hi] at this
        exact absurd e this⟩, rfl⟩
theorem index_empty (a : Option Addr) (cap : Nat) (x : Value) (w : World) : Calls Tryd.prog 46 #[.slice a 0 cap, x] w fun e w' => e = .returned (.int .i64 (-1)) ∧ w' = w := by
  go_enter Tryd.func46, Tryd.ntmps46
  go_wp2
  refine wp_loop_rounds 1 ?_
  rw [rounds_succ]
  go_wp2
  go_ret
  exact ⟨rfl, rfl⟩
theorem contains_any (v : Value) (xs : List Int) (x : Int) (w : World) (hlen : xs.length ≤ 1000) (h : SliceAt w v (xs.map (Value.int .i64))) :
    Calls Tryd.prog 28 #[v, .int .i64 x] w fun e w' => e = .returned (.bool (decide (x ∈ xs))) ∧ w' = w := by
  rcases h with ⟨rfl, hx⟩ | ⟨b, o, cap, rfl, hb, _, hc⟩
  · have hx' : xs = [] := by simpa using hx
    subst hx'
    go_enter Tryd.func28, Tryd.ntmps28
    go_wp2_with (go_at_call 46; refine (index_empty _ _ _ _).mono ?_; rintro e w1 ⟨rfl, rfl⟩)
    go_ret
    exact ⟨by simp, rfl⟩
  · have hl : (xs.map (Value.int .i64)).length = xs.length := List.length_map _
    rw [hl]
    have HI := Lib.hid (index_any b o cap xs x w hlen (fun j hj => by
      rw [hc j (.int .i64 (xs.getD j 0)) (by simp [List.getD, hj])]))
    clear hc hl
    by_cases hx : x ∈ xs
    · have HX : Hid (decide (x ∈ xs) = true) := decide_eq_true hx
      go_enter Tryd.func28, Tryd.ntmps28
      go_wp2_with (go_at_call 46; refine HI.out.mono ?_; rintro e w1 ⟨⟨r, rfl, hr1, hr2, hr3⟩, rfl⟩; obtain ⟨i, rfl⟩ : ∃ i : Nat, r = i := ⟨r.toNat, by have := hr3.2 hx; omega⟩)
      go_ret
      exact ⟨by rw [HX.out]; rfl, rfl⟩
    · have HX : Hid (decide (x ∈ xs) = false) := decide_eq_false hx
      go_enter Tryd.func28, Tryd.ntmps28
      go_wp2_with (go_at_call 46; refine HI.out.mono ?_; rintro e w1 ⟨⟨r, rfl, hr1, hr2, hr3⟩, rfl⟩; obtain rfl : r = -1 := by (have : ¬ 0 ≤ r := fun h => hx (hr3.1 h)); omega)
      go_ret
      exact ⟨by rw [HX.out]; rfl, rfl⟩

/-! One that is none. -/
theorem next_nil (now : Int) (w : World) : Calls Tryd.prog 7 #[.pointer none, .int .u64 now] w fun e w' => e = .returned (.slice none 0 0) ∧ Below w.heap.size w w' := by
  go_enter Tryd.func7, Tryd.ntmps7
  go_wp2
  go_ret
  exact ⟨rfl, (Below.refl _ _).alloc (Nat.le_refl _) _⟩
theorem packs_nil (w : World) : Calls Tryd.prog 10 #[.pointer none] w fun e w' => e = .returned (.slice none 0 0) ∧ Below w.heap.size w w' := by
  go_enter Tryd.func10, Tryd.ntmps10
  go_wp2
  go_ret
  exact ⟨rfl, Below.refl _ _⟩
theorem gone_nil (x : Value) (w : World) : Calls Tryd.prog 11 #[.pointer none, x] w fun e w' => e = .returned (.bool false) ∧ Below w.heap.size w w' := by
  go_enter Tryd.func11, Tryd.ntmps11
  go_wp2
  go_ret
  exact ⟨rfl, Below.refl _ _⟩
theorem join_nil (x : Value) (w : World) : Calls Tryd.prog 12 #[.pointer none, x] w fun e w' => e = .returned (.bool false) ∧ Below w.heap.size w w' := by
  go_enter Tryd.func12, Tryd.ntmps12
  go_wp2
  go_ret
  exact ⟨rfl, Below.refl _ _⟩
theorem sizeL (y : List UInt8) (hy : y.length = 32) : (Tryd.prog.info? 30).map (·.size) = some (cellsOf y).toArray.size := by rw [Tryd.sizeId]; simp [hy]
theorem forget_nil (y : List UInt8) (hy : y.length = 32) (w : World) : Calls Tryd.prog 13 #[.pointer none, .agg (cellsOf y).toArray] w fun e w' => e = .returned (.slice none 0 0) ∧ Below w.heap.size w w' := by
  have HX := Lib.hid (sizeL y hy)
  have HB : Hid (Below w.heap.size w (w.alloc (.cells (cellsOf y).toArray 30))) := (Below.refl _ _).alloc (Nat.le_refl _) _
  go_enter Tryd.func13, Tryd.ntmps13
  go_wp2_with (first
    | ((refine wpList_load_row rfl 30 _ rfl w.heap.size ?_ 30 (cellsOf y).toArray (0, 0) _ ?_ Tryd.undId rfl HX.out ?_); (rfl); (exact heap_alloc_new _ _))
    | (go_at_call 18; refine (find_nil _ _ y rfl).mono ?_; rintro e w1 ⟨rfl, hb⟩; have HB1 := Lib.hid (HB.out.trans (hb.mono HB.out.size)); clear hb))
  go_ret
  exact ⟨rfl, HB1.out⟩
theorem builtZero : Tryd.prog.built 30 [] = some zeroId.toArray := by kernel_rfl
theorem oneCell_zero : (zeroId.toArray).all (·.oneCell') = true := by
  simp only [List.all_toArray, List.all_eq_true]
  intro u hu
  rw [(List.mem_replicate.1 hu).2]
  rfl
theorem want_nil (v : Value) (w : World) : Calls Tryd.prog 6 #[.pointer none, v] w fun e w' => e = .returned (.tuple #[.agg zeroId.toArray, .int .i64 1]) ∧ Below w.heap.size w w' := by
  have HX : Hid ((Tryd.prog.info? 30).map (·.size) = some zeroId.toArray.size) := Tryd.sizeId
  have HB := Lib.hid builtZero
  have HO := Lib.hid oneCell_zero
  go_enter Tryd.func6, Tryd.ntmps6
  go_wp2_with (first
    | ((with_reducible refine wpList_buildTo rfl 30 _ rfl _ rfl zeroId.toArray ?_ ?_); (simp only [List.map_toArray, List.map_cons, List.map_nil]; exact HB.out))
    | ((with_reducible refine wpList_store_rowTo rfl 30 _ _ rfl rfl w.heap.size zeroId.toArray ?_ ?_ 30 zeroId.toArray ?_ HX.out rfl HO.out ?_); (rfl); (rfl); (exact heap_alloc_new _ _); (show wpList _ _ _ _ _ (World.setRow (w.alloc (.cells zeroId.toArray 30)) w.heap.size zeroId.toArray)); (rw [setRow_alloc])))
  refine bodyPost_ret (results_ct rfl _ _ w.heap.size 30 zeroId.toArray (0, 0) _ rfl (heap_alloc_new _ _) Tryd.undId rfl HX.out) rfl ⟨rfl, (Below.refl _ _).alloc (Nat.le_refl _) _⟩
end Go.Proofs.YtpogpfabnkgkfaaDoor
