/- The small functions of placing (states, comparisons), walked: for every argument. -/
import Derived.Test.YtpogpfabnkgkfaaDoorRows
import Derived.WalkKit
import Derived.Deep.QuietTactic
import Derived.BigQuiet
import Derived.Lib.Hide
namespace Go.Proofs.YtpogpfabnkgkfaaDoor
open Go.RowKit

theorem ret_b {a b : Bool} (h : a = b) : Ending.returned (.bool a) = Ending.returned (.bool b) := by rw [h]
theorem ret_i {k : IntKind} {a b : Int} (h : a = b) : Ending.returned (.int k a) = Ending.returned (.int k b) := by rw [h]
theorem Ending.inj {a b : Value} (h : Ending.returned a = Ending.returned b) : a = b := by cases h; rfl

/-- Old cells and marks read as before. -/
theorem bcell {W w1 : World} (hb : Below W.heap.size W w1) : (∀ b o, b < W.heap.size → w1.cell? ⟨b, o, none⟩ = W.cell? ⟨b, o, none⟩) ∧ (∀ b o, b < W.heap.size → w1.frozen? ⟨b, o, none⟩ = W.frozen? ⟨b, o, none⟩) :=
  ⟨fun b o h => hb.cell (p := ⟨b, o, none⟩) h, fun b o h => hb.frozen (p := ⟨b, o, none⟩) h⟩

def busyB (h : Int) : Bool := h == 1 || h == 2 || h == 3

set_option maxHeartbeats 400000 in
theorem busy_any (h s : Int) (w : World) :
    Calls Tryd.prog 23 #[.agg #[.int .i64 h, .int .u64 s]] w fun e w' => e = .returned (.bool (busyB h)) ∧ Below w.heap.size w w' := by
  go_enter Tryd.func23, Tryd.ntmps23
  go_wp2
  · rename_i h1; subst h1; go_ret; exact ⟨rfl, (Below.refl _ _).alloc (Nat.le_refl _) _⟩
  · rename_i h1 h2; subst h2; go_ret; exact ⟨rfl, (Below.refl _ _).alloc (Nat.le_refl _) _⟩
  · go_ret; exact ⟨rfl, (Below.refl _ _).alloc (Nat.le_refl _) _⟩

def lateB (h s now : Int) : Bool := (h == 1 || h == 2) && decide (8 ≤ now - min s now)

theorem late_any (h s now : Int) (hs : 0 ≤ s) (hs' : s ≤ 18446744073709551615) (hn : 0 ≤ now) (hn' : now ≤ 18446744073709551615) (w : World) :
    Calls Tryd.prog 22 #[.agg #[.int .i64 h, .int .u64 s], .int .u64 now] w fun e w' => e = .returned (.bool (lateB h s now)) ∧ Below w.heap.size w w' := by
  go_enter Tryd.func22, Tryd.ntmps22
  go_wp2
  all_goals go_ret
  all_goals refine ⟨ret_b ?_, (Below.refl _ _).alloc (Nat.le_refl _) _⟩
  · have e : min s now = now := by omega
    simp [lateB, e]
  · have e : min s now = s := by omega
    simp [lateB, e]
  · have e : min s now = now := by omega
    simp [lateB, e]
  · have e : min s now = s := by omega
    simp [lateB, e]
  · simp [lateB, *]

/-- The closure of Next. -/
theorem late1_any (h s now : Int) (c : Nat) (hs : 0 ≤ s) (hs' : s ≤ 18446744073709551615) (hn : 0 ≤ now) (hn' : now ≤ 18446744073709551615) (w : World) (hc : c < w.heap.size) (h0 : w.cell? ⟨c, 0, none⟩ = some (.int .u64 now)) :
    Calls Tryd.prog 21 #[.agg #[.int .i64 h, .int .u64 s], .pointer (some ⟨c, 0, none⟩)] w fun e w' => e = .returned (.bool (lateB h s now)) ∧ Below w.heap.size w w' := by
  go_enter Tryd.func21, Tryd.ntmps21
  go_wp2_with (go_at_call 22; refine (late_any _ _ _ hs hs' hn hn' _).mono ?_; rintro e w' ⟨rfl, hb⟩)
  go_ret
  exact ⟨rfl, ((Below.refl _ _).alloc (Nat.le_refl _) _).trans (hb.mono (by simp))⟩

theorem failed1_any (k h s : Int) (w : World) :
    Calls Tryd.prog 27 #[.int .i64 k, .agg #[.int .i64 h, .int .u64 s]] w fun e w' => e = .returned (.bool (h == 4)) ∧ Below w.heap.size w w' := by
  go_enter Tryd.func27, Tryd.ntmps27
  go_wp2
  go_ret
  exact ⟨rfl, (Below.refl _ _).alloc (Nat.le_refl _) _⟩

theorem holder1_any (h s : Int) (w : World) :
    Calls Tryd.prog 33 #[.agg #[.int .i64 h, .int .u64 s]] w fun e w' => e = .returned (.bool (h == 3)) ∧ Below w.heap.size w w' := by
  go_enter Tryd.func33, Tryd.ntmps33
  go_wp2
  go_ret
  exact ⟨rfl, (Below.refl _ _).alloc (Nat.le_refl _) _⟩

def cmpI (a b : Int) : Int := if a < b then -1 else if b < a then 1 else 0

theorem compare_any (a b : Int) (w : World) :
    Calls Tryd.prog 44 #[.int .i64 a, .int .i64 b] w fun e w' => e = .returned (.int .i64 (cmpI a b)) ∧ w = w' := by
  go_enter Tryd.func44, Tryd.ntmps44
  go_wp2
  all_goals go_ret
  all_goals refine ⟨ret_i ?_, rfl⟩
  · have h : a < b := by assumption
    simp [cmpI, h]
  · have h : b < a := by assumption
    have h' : ¬ a < b := by omega
    simp [cmpI, h, h']
  · have h : b ≤ a := by assumption
    have h' : a ≤ b := by assumption
    simp [cmpI, show ¬ a < b by omega, show ¬ b < a by omega]

def orI (a b : Int) : Int := if a = 0 then b else a
/-- cmp.Or of two. -/
theorem or_two (a b : Int) (g c : Nat) (w : World) (h0 : w.cell? ⟨g, 0, none⟩ = some (.int .i64 a)) (h1 : w.cell? ⟨g, 1, none⟩ = some (.int .i64 b)) :
    Calls Tryd.prog 43 #[.slice (some ⟨g, 0, none⟩) 2 c] w fun e w' => e = .returned (.int .i64 (orI a b)) ∧ w = w' := by
  by_cases ha : a = 0
  · subst ha
    by_cases hb : b = 0
    · subst hb
      go_enter Tryd.func43, Tryd.ntmps43
      go_wp2
      refine wp_loop_rounds 3 ?_
      rw [rounds_succ]
      go_wp2
      rw [rounds_succ]
      go_wp2
      rw [rounds_succ]
      go_wp2
      go_ret
      exact ⟨ret_i (by simp [orI]), rfl⟩
    · go_enter Tryd.func43, Tryd.ntmps43
      go_wp2
      refine wp_loop_rounds 2 ?_
      rw [rounds_succ]
      go_wp2
      rw [rounds_succ]
      go_wp2
      go_ret
      exact ⟨ret_i (by simp [orI]), rfl⟩
  · go_enter Tryd.func43, Tryd.ntmps43
    go_wp2
    refine wp_loop_rounds 1 ?_
    rw [rounds_succ]
    go_wp2
    go_ret
    exact ⟨ret_i (by simp [orI, ha]), rfl⟩

end Go.Proofs.YtpogpfabnkgkfaaDoor
