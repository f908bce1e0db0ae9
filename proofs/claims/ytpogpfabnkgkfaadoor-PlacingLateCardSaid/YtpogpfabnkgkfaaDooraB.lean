/- digest.ring.next, walked: for sixteen words. -/
import Derived.Test.YtpogpfabnkgkfaaDooraA
namespace Go.Proofs.YtpogpfabnkgkfaaDoor
open Go.RowKit Go.BigFrame Go.Maps Go.Shelf Go.Sort
set_option maxRecDepth 100000

/-! The ring of sixteen words. -/
def wordsOf (r : List Int) : Array Value := (r.map (Value.int .u32)).toArray
def addS (x y : Int) : Int := IntKind.u32.wrap (x + y)
def low0 (x : Int) : Int := xorS (xorS (rotS x 25 7) (rotS x 14 18)) (x / 8)
def low1 (x : Int) : Int := xorS (xorS (rotS x 15 17) (rotS x 13 19)) (x / 1024)
def nextV (r : List Int) (n : Nat) : Int := addS (r.getD (n % 16) 0) (addS (addS (low0 (r.getD ((n + 1) % 16) 0)) (r.getD ((n + 9) % 16) 0)) (low1 (r.getD ((n + 14) % 16) 0)))
theorem words_cell {w : World} {R : Nat} {t : TypeId} {fr : Nat × Nat} {r : List Int} (h : w.heap[R]? = some (.cells (wordsOf r) t fr)) {j : Nat} (hj : j < r.length) : w.cell? ⟨R, j, none⟩ = some (.int .u32 (r.getD j 0)) := by
  rw [cell_of_row _ _ _ _ _ _ h]
  simp [wordsOf, List.getD, hj]

set_option maxHeartbeats 2000000 in
theorem ringnext_any (R : Nat) (t : TypeId) (r : List Int) (n : Nat) (hr : r.length = 16) (hn : n < 64) (w : World) (h : w.heap[R]? = some (.cells (wordsOf r) t (0, 0))) :
    Calls Tryd.prog 77 #[.pointer (some ⟨R, 0, none⟩), .int .i64 n] w fun e w' => e = .returned (.int .u32 (nextV r n)) ∧ ∃ m, w' = (w.setCell ⟨R, n % 16, none⟩ (.int .u32 (nextV r n))).drewN m := by
  have c0 := words_cell h (j := n % 16) (by omega)
  have c1 := words_cell h (j := (n + 1) % 16) (by omega)
  have c9 := words_cell h (j := (n + 9) % 16) (by omega)
  have c14 := words_cell h (j := (n + 14) % 16) (by omega)
  have hz := frozen_of_row w R (n % 16) _ _ h
  have e0 : (n : Int) % 16 = ((n % 16 : Nat) : Int) := by omega
  have e1 : ((n : Int) + 1) % 16 = (((n + 1) % 16 : Nat) : Int) := by omega
  have e9 : ((n : Int) + 9) % 16 = (((n + 9) % 16 : Nat) : Int) := by omega
  have e14 : ((n : Int) + 14) % 16 = (((n + 14) % 16 : Nat) : Int) := by omega
  have v1 : IntKind.i64.wrap ((n : Int) + 1) = (n : Int) + 1 := by rw [IntKind.wrap_i64]; omega
  have v9 : IntKind.i64.wrap ((n : Int) + 9) = (n : Int) + 9 := by rw [IntKind.wrap_i64]; omega
  have v14 : IntKind.i64.wrap ((n : Int) + 14) = (n : Int) + 14 := by rw [IntKind.wrap_i64]; omega
  have t0 : Int.tmod (n : Int) 16 = ((n % 16 : Nat) : Int) := by rw [Int.tmod_eq_emod_of_nonneg (by omega)]; exact e0
  have t1 : Int.tmod ((n : Int) + 1) 16 = (((n + 1) % 16 : Nat) : Int) := by rw [Int.tmod_eq_emod_of_nonneg (by omega)]; exact e1
  have t9 : Int.tmod ((n : Int) + 9) 16 = (((n + 9) % 16 : Nat) : Int) := by rw [Int.tmod_eq_emod_of_nonneg (by omega)]; exact e9
  have t14 : Int.tmod ((n : Int) + 14) 16 = (((n + 14) % 16 : Nat) : Int) := by rw [Int.tmod_eq_emod_of_nonneg (by omega)]; exact e14
  have b0 : n % 16 < 16 := Nat.mod_lt _ (by decide)
  have b1 : (n + 1) % 16 < 16 := Nat.mod_lt _ (by decide)
  have b9 : (n + 9) % 16 < 16 := Nat.mod_lt _ (by decide)
  have b14 : (n + 14) % 16 < 16 := Nat.mod_lt _ (by decide)
  have HV : Hid (nextV r n = addS (r.getD (n % 16) 0) (addS (addS (low0 (r.getD ((n + 1) % 16) 0)) (r.getD ((n + 9) % 16) 0)) (low1 (r.getD ((n + 14) % 16) 0)))) := rfl
  generalize nextV r n = v at *
  generalize r.getD (n % 16) 0 = x0 at *
  generalize r.getD ((n + 1) % 16) 0 = x1 at *
  generalize r.getD ((n + 9) % 16) 0 = x9 at *
  generalize r.getD ((n + 14) % 16) 0 = x14 at *
  generalize n % 16 = k0 at *
  generalize (n + 1) % 16 = k1 at *
  generalize (n + 9) % 16 = k9 at *
  generalize (n + 14) % 16 = k14 at *
  have p0 : (0 : Int) ≤ (k0 : Int) ∧ (k0 : Int) < 16 := by omega
  have p1 : (0 : Int) ≤ (k1 : Int) ∧ (k1 : Int) < 16 := by omega
  have p9 : (0 : Int) ≤ (k9 : Int) ∧ (k9 : Int) < 16 := by omega
  have p14 : (0 : Int) ≤ (k14 : Int) ∧ (k14 : Int) < 16 := by omega
  obtain ⟨p0, q0⟩ := p0
  obtain ⟨p1, q1⟩ := p1
  obtain ⟨p9, q9⟩ := p9
  obtain ⟨p14, q14⟩ := p14
  clear h hr
  go_enter Tryd.func77, Tryd.ntmps77
  go_wp2
  go_region_held3 (fun w' => w'.cell? ⟨R, k1, none⟩ = some (.int .u32 x1) ∧ w'.cell? ⟨R, k14, none⟩ = some (.int .u32 x14)) (go_keep) (fail)
  go_wp2_with (first
    | (go_at_call_of 92 (Value.int IntKind.i64 7); refine (turn7 x1 _).mono ?_; rintro e w1 ⟨rfl, rfl⟩)
    | (go_at_call_of 92 (Value.int IntKind.i64 18); refine (turn18 x1 _).mono ?_; rintro e w1 ⟨rfl, rfl⟩)
    | (go_at_call_of 92 (Value.int IntKind.i64 17); refine (turn17 x14 _).mono ?_; rintro e w1 ⟨rfl, rfl⟩)
    | (go_at_call_of 92 (Value.int IntKind.i64 19); refine (turn19 x14 _).mono ?_; rintro e w1 ⟨rfl, rfl⟩))
  have hS1 : w.drew.drew.cell? ⟨R, k0, none⟩ = some (.int .u32 x0) ∧ w.drew.drew.cell? ⟨R, k9, none⟩ = some (.int .u32 x9) := ⟨c0, c9⟩
  have hz' : w.drew.drew.frozen? ⟨R, k0, none⟩ = false := hz
  refine wpX_begin (fun _ => True) (fun w' => w'.cell? ⟨R, k0, none⟩ = some (.int .u32 x0) ∧ w'.cell? ⟨R, k9, none⟩ = some (.int .u32 x9)) (fun e => [20].contains e) (by kernel_rfl) ?_
  have hT : True := trivial
  refine wpX_take (i := 0) (v := ?_) false (by simp only [List.getElem?_toArray, List.getElem?_cons_succ, List.getElem?_cons_zero]; rfl) (by kernel_rfl) (by kernel_rfl) (by kernel_rfl) (by kernel_rfl) (fun e => by cases e) (by exact fun _ _ _ h => h) (Or.inl ⟨by rfl, ?_⟩) ⟨by assumption, fun e => by cases e⟩ ?_
  rotate_left 1
  · (intro w hSw; obtain ⟨hs0, hs1⟩ := hSw; (try have hs1 := hs1 rfl); (try dsimp only at hs0 hs1); go_simp; try with_reducible rfl)
  try simp only [Act.put, List.setIfInBounds_toArray, List.set_cons_zero, List.set_cons_succ]
  refine wpX_take (i := 1) (v := ?_) false (by simp only [List.getElem?_toArray, List.getElem?_cons_succ, List.getElem?_cons_zero]; rfl) (by kernel_rfl) (by kernel_rfl) (by kernel_rfl) (by kernel_rfl) (fun e => by cases e) (by exact fun _ _ _ h => h) (Or.inl ⟨by rfl, ?_⟩) ⟨by assumption, fun e => by cases e⟩ ?_
  rotate_left 1
  · (intro w hSw; obtain ⟨hs0, hs1⟩ := hSw; (try have hs1 := hs1 rfl); (try dsimp only at hs0 hs1); go_simp; try with_reducible rfl)
  try simp only [Act.put, List.setIfInBounds_toArray, List.set_cons_zero, List.set_cons_succ]
  refine wpX_take (i := 2) (v := ?_) false (by simp only [List.getElem?_toArray, List.getElem?_cons_succ, List.getElem?_cons_zero]; rfl) (by kernel_rfl) (by kernel_rfl) (by kernel_rfl) (by kernel_rfl) (fun e => by cases e) (by exact fun _ _ _ h => h) (Or.inl ⟨by rfl, ?_⟩) ⟨by assumption, fun e => by cases e⟩ ?_
  rotate_left 1
  · (intro w hSw; obtain ⟨hs0, hs1⟩ := hSw; (try have hs1 := hs1 rfl); (try dsimp only at hs0 hs1); go_simp; try with_reducible rfl)
  try simp only [Act.put, List.setIfInBounds_toArray, List.set_cons_zero, List.set_cons_succ]
  refine wpX_take (i := 3) (v := ?_) false (by simp only [List.getElem?_toArray, List.getElem?_cons_succ, List.getElem?_cons_zero]; rfl) (by kernel_rfl) (by kernel_rfl) (by kernel_rfl) (by kernel_rfl) (fun e => by cases e) (by exact fun _ _ _ h => h) (Or.inl ⟨by rfl, ?_⟩) ⟨by assumption, fun e => by cases e⟩ ?_
  rotate_left 1
  · (intro w hSw; obtain ⟨hs0, hs1⟩ := hSw; (try have hs1 := hs1 rfl); (try dsimp only at hs0 hs1); go_simp; try with_reducible rfl)
  try simp only [Act.put, List.setIfInBounds_toArray, List.set_cons_zero, List.set_cons_succ]
  refine wpX_take (i := 4) (v := ?_) false (by simp only [List.getElem?_toArray, List.getElem?_cons_succ, List.getElem?_cons_zero]; rfl) (by kernel_rfl) (by kernel_rfl) (by kernel_rfl) (by kernel_rfl) (fun e => by cases e) (by exact fun _ _ _ h => h) (Or.inl ⟨by rfl, ?_⟩) ⟨by assumption, fun e => by cases e⟩ ?_
  rotate_left 1
  · (intro w hSw; obtain ⟨hs0, hs1⟩ := hSw; (try have hs1 := hs1 rfl); (try dsimp only at hs0 hs1); go_simp; try with_reducible rfl)
  try simp only [Act.put, List.setIfInBounds_toArray, List.set_cons_zero, List.set_cons_succ]
  refine wpX_take (i := 5) (v := ?_) true (by simp only [List.getElem?_toArray, List.getElem?_cons_succ, List.getElem?_cons_zero]; rfl) (by kernel_rfl) (by kernel_rfl) (by kernel_rfl) (by kernel_rfl) (fun _ => exNot_of _ _ (by kernel_rfl)) (by exact fun _ _ _ h => h) (Or.inl ⟨by rfl, ?_⟩) ⟨by assumption, fun _ => by assumption⟩ ?_
  rotate_left 1
  · (intro w hSw; obtain ⟨hs0, hs1⟩ := hSw; (try have hs1 := hs1 rfl); (try dsimp only at hs0 hs1); go_simp; try with_reducible rfl)
  try simp only [Act.put, List.setIfInBounds_toArray, List.set_cons_zero, List.set_cons_succ]
  refine wpX_take (i := 6) (v := ?_) false (by simp only [List.getElem?_toArray, List.getElem?_cons_succ, List.getElem?_cons_zero]; rfl) (by kernel_rfl) (by kernel_rfl) (by kernel_rfl) (by kernel_rfl) (fun e => by cases e) (by exact fun _ _ _ h => h) (Or.inl ⟨by rfl, ?_⟩) ⟨by assumption, fun e => by cases e⟩ ?_
  rotate_left 1
  · (intro w hSw; obtain ⟨hs0, hs1⟩ := hSw; (try have hs1 := hs1 rfl); (try dsimp only at hs0 hs1); go_simp; try with_reducible rfl)
  try simp only [Act.put, List.setIfInBounds_toArray, List.set_cons_zero, List.set_cons_succ]
  refine wpX_take (i := 7) (v := ?_) false (by simp only [List.getElem?_toArray, List.getElem?_cons_succ, List.getElem?_cons_zero]; rfl) (by kernel_rfl) (by kernel_rfl) (by kernel_rfl) (by kernel_rfl) (fun e => by cases e) (by exact fun _ _ _ h => h) (Or.inl ⟨by rfl, ?_⟩) ⟨by assumption, fun e => by cases e⟩ ?_
  rotate_left 1
  · (intro w hSw; obtain ⟨hs0, hs1⟩ := hSw; (try have hs1 := hs1 rfl); (try dsimp only at hs0 hs1); go_simp; try with_reducible rfl)
  try simp only [Act.put, List.setIfInBounds_toArray, List.set_cons_zero, List.set_cons_succ]
  refine wpX_take (i := 8) (v := ?_) false (by simp only [List.getElem?_toArray, List.getElem?_cons_succ, List.getElem?_cons_zero]; rfl) (by kernel_rfl) (by kernel_rfl) (by kernel_rfl) (by kernel_rfl) (fun e => by cases e) (by exact fun _ _ _ h => h) (Or.inl ⟨by rfl, ?_⟩) ⟨by assumption, fun e => by cases e⟩ ?_
  rotate_left 1
  · (intro w hSw; obtain ⟨hs0, hs1⟩ := hSw; (try have hs1 := hs1 rfl); (try dsimp only at hs0 hs1); go_simp; try with_reducible rfl)
  try simp only [Act.put, List.setIfInBounds_toArray, List.set_cons_zero, List.set_cons_succ]
  refine wpX_take (i := 9) (v := ?_) false (by simp only [List.getElem?_toArray, List.getElem?_cons_succ, List.getElem?_cons_zero]; rfl) (by kernel_rfl) (by kernel_rfl) (by kernel_rfl) (by kernel_rfl) (fun e => by cases e) (by exact fun _ _ _ h => h) (Or.inl ⟨by rfl, ?_⟩) ⟨by assumption, fun e => by cases e⟩ ?_
  rotate_left 1
  · (intro w hSw; obtain ⟨hs0, hs1⟩ := hSw; (try have hs1 := hs1 rfl); (try dsimp only at hs0 hs1); go_simp; try with_reducible rfl)
  try simp only [Act.put, List.setIfInBounds_toArray, List.set_cons_zero, List.set_cons_succ]
  refine wpX_take (i := 10) (v := ?_) false (by simp only [List.getElem?_toArray, List.getElem?_cons_succ, List.getElem?_cons_zero]; rfl) (by kernel_rfl) (by kernel_rfl) (by kernel_rfl) (by kernel_rfl) (fun e => by cases e) (by exact fun _ _ _ h => h) (Or.inl ⟨by rfl, ?_⟩) ⟨by assumption, fun e => by cases e⟩ ?_
  rotate_left 1
  · (intro w hSw; obtain ⟨hs0, hs1⟩ := hSw; (try have hs1 := hs1 rfl); (try dsimp only at hs0 hs1); go_simp; try with_reducible rfl)
  try simp only [Act.put, List.setIfInBounds_toArray, List.set_cons_zero, List.set_cons_succ]
  refine wpX_take (i := 11) (v := ?_) false (by simp only [List.getElem?_toArray, List.getElem?_cons_succ, List.getElem?_cons_zero]; rfl) (by kernel_rfl) (by kernel_rfl) (by kernel_rfl) (by kernel_rfl) (fun e => by cases e) (by exact fun _ _ _ h => h) (Or.inl ⟨by rfl, ?_⟩) ⟨by assumption, fun e => by cases e⟩ ?_
  rotate_left 1
  · (intro w hSw; obtain ⟨hs0, hs1⟩ := hSw; (try have hs1 := hs1 rfl); (try dsimp only at hs0 hs1); go_simp; try with_reducible rfl)
  try simp only [Act.put, List.setIfInBounds_toArray, List.set_cons_zero, List.set_cons_succ]
  refine wpX_take (i := 12) (v := ?_) false (by simp only [List.getElem?_toArray, List.getElem?_cons_succ, List.getElem?_cons_zero]; rfl) (by kernel_rfl) (by kernel_rfl) (by kernel_rfl) (by kernel_rfl) (fun e => by cases e) (by exact fun _ _ _ h => h) (Or.inl ⟨by rfl, ?_⟩) ⟨by assumption, fun e => by cases e⟩ ?_
  rotate_left 1
  · (intro w hSw; obtain ⟨hs0, hs1⟩ := hSw; (try have hs1 := hs1 rfl); (try dsimp only at hs0 hs1); go_simp; try with_reducible rfl)
  try simp only [Act.put, List.setIfInBounds_toArray, List.set_cons_zero, List.set_cons_succ]
  refine wpX_take (i := 13) (v := ?_) true (by simp only [List.getElem?_toArray, List.getElem?_cons_succ, List.getElem?_cons_zero]; rfl) (by kernel_rfl) (by kernel_rfl) (by kernel_rfl) (by kernel_rfl) (fun _ => exNot_of _ _ (by kernel_rfl)) (by exact fun _ _ _ h => h) (Or.inl ⟨by rfl, ?_⟩) ⟨by assumption, fun _ => by assumption⟩ ?_
  rotate_left 1
  · (intro w hSw; obtain ⟨hs0, hs1⟩ := hSw; (try have hs1 := hs1 rfl); (try dsimp only at hs0 hs1); go_simp; try with_reducible rfl)
  try simp only [Act.put, List.setIfInBounds_toArray, List.set_cons_zero, List.set_cons_succ]
  refine wpX_take (i := 14) (v := ?_) false (by simp only [List.getElem?_toArray, List.getElem?_cons_succ, List.getElem?_cons_zero]; rfl) (by kernel_rfl) (by kernel_rfl) (by kernel_rfl) (by kernel_rfl) (fun e => by cases e) (by exact fun _ _ _ h => h) (Or.inl ⟨by rfl, ?_⟩) ⟨by assumption, fun e => by cases e⟩ ?_
  rotate_left 1
  · (intro w hSw; obtain ⟨hs0, hs1⟩ := hSw; (try have hs1 := hs1 rfl); (try dsimp only at hs0 hs1); go_simp; try with_reducible rfl)
  try simp only [Act.put, List.setIfInBounds_toArray, List.set_cons_zero, List.set_cons_succ]
  refine wpX_take (i := 15) (v := ?_) false (by simp only [List.getElem?_toArray, List.getElem?_cons_succ, List.getElem?_cons_zero]; rfl) (by kernel_rfl) (by kernel_rfl) (by kernel_rfl) (by kernel_rfl) (fun e => by cases e) (by exact fun _ _ _ h => h) (Or.inl ⟨by rfl, ?_⟩) ⟨by assumption, fun e => by cases e⟩ ?_
  rotate_left 1
  · (intro w hSw; obtain ⟨hs0, hs1⟩ := hSw; (try have hs1 := hs1 rfl); (try dsimp only at hs0 hs1); go_simp; try with_reducible rfl)
  try simp only [Act.put, List.setIfInBounds_toArray, List.set_cons_zero, List.set_cons_succ]
  refine wpX_take (i := 16) (v := ?_) false (by simp only [List.getElem?_toArray, List.getElem?_cons_succ, List.getElem?_cons_zero]; rfl) (by kernel_rfl) (by kernel_rfl) (by kernel_rfl) (by kernel_rfl) (fun e => by cases e) (by exact fun _ _ _ h => h) (Or.inl ⟨by rfl, ?_⟩) ⟨by assumption, fun e => by cases e⟩ ?_
  rotate_left 1
  · (intro w hSw; obtain ⟨hs0, hs1⟩ := hSw; (try have hs1 := hs1 rfl); (try dsimp only at hs0 hs1); go_simp; try with_reducible rfl)
  try simp only [Act.put, List.setIfInBounds_toArray, List.set_cons_zero, List.set_cons_succ]
  refine wpX_take (i := 17) (v := ?_) false (by simp only [List.getElem?_toArray, List.getElem?_cons_succ, List.getElem?_cons_zero]; rfl) (by kernel_rfl) (by kernel_rfl) (by kernel_rfl) (by kernel_rfl) (fun e => by cases e) (by exact fun _ _ _ h => h) (Or.inl ⟨by rfl, ?_⟩) ⟨by assumption, fun e => by cases e⟩ ?_
  rotate_left 1
  · (intro w hSw; obtain ⟨hs0, hs1⟩ := hSw; (try have hs1 := hs1 rfl); (try dsimp only at hs0 hs1); go_simp; try with_reducible rfl)
  try simp only [Act.put, List.setIfInBounds_toArray, List.set_cons_zero, List.set_cons_succ]
  refine wpX_take (i := 18) (v := ?_) false (by simp only [List.getElem?_toArray, List.getElem?_cons_succ, List.getElem?_cons_zero]; rfl) (by kernel_rfl) (by kernel_rfl) (by kernel_rfl) (by kernel_rfl) (fun e => by cases e) (by exact fun _ _ _ h => h) (Or.inl ⟨by rfl, ?_⟩) ⟨by assumption, fun e => by cases e⟩ ?_
  rotate_left 1
  · (intro w hSw; obtain ⟨hs0, hs1⟩ := hSw; (try have hs1 := hs1 rfl); (try dsimp only at hs0 hs1); go_simp; try with_reducible rfl)
  try simp only [Act.put, List.setIfInBounds_toArray, List.set_cons_zero, List.set_cons_succ]
  refine wpX_take (i := 19) (v := ?_) false (by simp only [List.getElem?_toArray, List.getElem?_cons_succ, List.getElem?_cons_zero]; rfl) (by kernel_rfl) (by kernel_rfl) (by kernel_rfl) (by kernel_rfl) (fun e => by cases e) (by exact fun _ _ _ h => h) (Or.inl ⟨by rfl, ?_⟩) ⟨by assumption, fun e => by cases e⟩ ?_
  rotate_left 1
  · (intro w hSw; obtain ⟨hs0, hs1⟩ := hSw; (try have hs1 := hs1 rfl); (try dsimp only at hs0 hs1); go_simp; try with_reducible rfl)
  try simp only [Act.put, List.setIfInBounds_toArray, List.set_cons_zero, List.set_cons_succ]
  obtain ⟨hS0', _⟩ := hS1
  have HVE : Hid (IntKind.u32.wrap (x0 + IntKind.u32.wrap (IntKind.u32.wrap (bits BinOp.xor IntKind.u32 (bits BinOp.xor IntKind.u32 (rotS x1 25 7) (rotS x1 14 18)) (x1 / 8) + x9) + bits BinOp.xor IntKind.u32 (bits BinOp.xor IntKind.u32 (rotS x14 15 17) (rotS x14 13 19)) (x14 / 1024))) = v) := HV.out.symm
  refine wpX_ready (rs := [20]) (by kernel_rfl) (by simp) ?_
  refine AllX.cons (by simp only [List.getElem?_toArray, List.getElem?_cons_succ, List.getElem?_cons_zero]; rfl) (fun K hK => ?_) AllX.nil
  go_simp
  rw [HVE.out]
  have hcv : (w.drew.drew.setCell ⟨R, k0, none⟩ (.int .u32 v)).cell? ⟨R, k0, none⟩ = some (.int .u32 v) := World.cell?_setCell_same' _ _ _ (by rw [hS0']; rfl)
  refine hK.out _ _ trivial (fun e => absurd e (by decide)) ?_
  clear hK K
  refine wpX_done (by kernel_rfl) ?_ _
  try simp only [Act.put, List.setIfInBounds_toArray, List.set_cons_zero, List.set_cons_succ]
  generalize hwv : w.drew.drew.setCell ⟨R, k0, none⟩ (.int .u32 v) = wv at *
  go_wp2
  go_ret
  exact ⟨rfl, 2, by first | rfl | exact hwv.symm⟩
end Go.Proofs.YtpogpfabnkgkfaaDoor
