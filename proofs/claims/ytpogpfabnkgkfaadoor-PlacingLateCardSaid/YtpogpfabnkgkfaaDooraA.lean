/- digest.turn and three, walked. -/
import Derived.Test.YtpogpfabnkgkfaaDoorZ
namespace Go.Proofs.YtpogpfabnkgkfaaDoor
open Go.RowKit Go.BigFrame Go.Maps Go.Shelf Go.Sort
set_option maxRecDepth 100000

/-- A word turned to the left by l, that is to the right by r. -/
def rotS (x : Int) (l r : Nat) : Int := bits .or .u32 (IntKind.u32.wrap (x * 2 ^ l)) (x / 2 ^ r)
def xorS (x y : Int) : Int := bits .xor .u32 x y
theorem turn2 (x : Int) (w : World) : Calls Tryd.prog 92 #[.int .u32 x, .int .i64 2] w fun e w' => e = .returned (.int .u32 (rotS x 30 2)) ∧ w' = w := by
  have h7 : bits BinOp.and IntKind.u64 (IntKind.u64.wrap (-2)) 31 = 30 := by kernel_rfl
  go_enter Tryd.func92, Tryd.ntmps92
  go_wp2
  go_ret
  exact ⟨rfl, rfl⟩
theorem turn6 (x : Int) (w : World) : Calls Tryd.prog 92 #[.int .u32 x, .int .i64 6] w fun e w' => e = .returned (.int .u32 (rotS x 26 6)) ∧ w' = w := by
  have h7 : bits BinOp.and IntKind.u64 (IntKind.u64.wrap (-6)) 31 = 26 := by kernel_rfl
  go_enter Tryd.func92, Tryd.ntmps92
  go_wp2
  go_ret
  exact ⟨rfl, rfl⟩
theorem turn7 (x : Int) (w : World) : Calls Tryd.prog 92 #[.int .u32 x, .int .i64 7] w fun e w' => e = .returned (.int .u32 (rotS x 25 7)) ∧ w' = w := by
  have h7 : bits BinOp.and IntKind.u64 (IntKind.u64.wrap (-7)) 31 = 25 := by kernel_rfl
  go_enter Tryd.func92, Tryd.ntmps92
  go_wp2
  go_ret
  exact ⟨rfl, rfl⟩
theorem turn11 (x : Int) (w : World) : Calls Tryd.prog 92 #[.int .u32 x, .int .i64 11] w fun e w' => e = .returned (.int .u32 (rotS x 21 11)) ∧ w' = w := by
  have h7 : bits BinOp.and IntKind.u64 (IntKind.u64.wrap (-11)) 31 = 21 := by kernel_rfl
  go_enter Tryd.func92, Tryd.ntmps92
  go_wp2
  go_ret
  exact ⟨rfl, rfl⟩
theorem turn13 (x : Int) (w : World) : Calls Tryd.prog 92 #[.int .u32 x, .int .i64 13] w fun e w' => e = .returned (.int .u32 (rotS x 19 13)) ∧ w' = w := by
  have h7 : bits BinOp.and IntKind.u64 (IntKind.u64.wrap (-13)) 31 = 19 := by kernel_rfl
  go_enter Tryd.func92, Tryd.ntmps92
  go_wp2
  go_ret
  exact ⟨rfl, rfl⟩
theorem turn17 (x : Int) (w : World) : Calls Tryd.prog 92 #[.int .u32 x, .int .i64 17] w fun e w' => e = .returned (.int .u32 (rotS x 15 17)) ∧ w' = w := by
  have h7 : bits BinOp.and IntKind.u64 (IntKind.u64.wrap (-17)) 31 = 15 := by kernel_rfl
  go_enter Tryd.func92, Tryd.ntmps92
  go_wp2
  go_ret
  exact ⟨rfl, rfl⟩
theorem turn18 (x : Int) (w : World) : Calls Tryd.prog 92 #[.int .u32 x, .int .i64 18] w fun e w' => e = .returned (.int .u32 (rotS x 14 18)) ∧ w' = w := by
  have h7 : bits BinOp.and IntKind.u64 (IntKind.u64.wrap (-18)) 31 = 14 := by kernel_rfl
  go_enter Tryd.func92, Tryd.ntmps92
  go_wp2
  go_ret
  exact ⟨rfl, rfl⟩
theorem turn19 (x : Int) (w : World) : Calls Tryd.prog 92 #[.int .u32 x, .int .i64 19] w fun e w' => e = .returned (.int .u32 (rotS x 13 19)) ∧ w' = w := by
  have h7 : bits BinOp.and IntKind.u64 (IntKind.u64.wrap (-19)) 31 = 13 := by kernel_rfl
  go_enter Tryd.func92, Tryd.ntmps92
  go_wp2
  go_ret
  exact ⟨rfl, rfl⟩
theorem turn22 (x : Int) (w : World) : Calls Tryd.prog 92 #[.int .u32 x, .int .i64 22] w fun e w' => e = .returned (.int .u32 (rotS x 10 22)) ∧ w' = w := by
  have h7 : bits BinOp.and IntKind.u64 (IntKind.u64.wrap (-22)) 31 = 10 := by kernel_rfl
  go_enter Tryd.func92, Tryd.ntmps92
  go_wp2
  go_ret
  exact ⟨rfl, rfl⟩
theorem turn25 (x : Int) (w : World) : Calls Tryd.prog 92 #[.int .u32 x, .int .i64 25] w fun e w' => e = .returned (.int .u32 (rotS x 7 25)) ∧ w' = w := by
  have h7 : bits BinOp.and IntKind.u64 (IntKind.u64.wrap (-25)) 31 = 7 := by kernel_rfl
  go_enter Tryd.func92, Tryd.ntmps92
  go_wp2
  go_ret
  exact ⟨rfl, rfl⟩
def three6 (x : Int) : Int := xorS (xorS (rotS x 26 6) (rotS x 21 11)) (rotS x 7 25)
theorem three6_any (x : Int) (w : World) : Calls Tryd.prog 78 #[.int .u32 x, .int .i64 6, .int .i64 11, .int .i64 25] w fun e w' => e = .returned (.int .u32 (three6 x)) ∧ w' = w := by
  go_enter Tryd.func78, Tryd.ntmps78
  go_wp2_with (first
    | (go_at_call_of 92 (Value.int IntKind.i64 6); refine (turn6 x _).mono ?_; rintro e w1 ⟨rfl, rfl⟩)
    | (go_at_call_of 92 (Value.int IntKind.i64 11); refine (turn11 x _).mono ?_; rintro e w1 ⟨rfl, rfl⟩)
    | (go_at_call_of 92 (Value.int IntKind.i64 25); refine (turn25 x _).mono ?_; rintro e w1 ⟨rfl, rfl⟩))
  go_ret
  exact ⟨rfl, rfl⟩
def three2 (x : Int) : Int := xorS (xorS (rotS x 30 2) (rotS x 19 13)) (rotS x 10 22)
theorem three2_any (x : Int) (w : World) : Calls Tryd.prog 78 #[.int .u32 x, .int .i64 2, .int .i64 13, .int .i64 22] w fun e w' => e = .returned (.int .u32 (three2 x)) ∧ w' = w := by
  go_enter Tryd.func78, Tryd.ntmps78
  go_wp2_with (first
    | (go_at_call_of 92 (Value.int IntKind.i64 2); refine (turn2 x _).mono ?_; rintro e w1 ⟨rfl, rfl⟩)
    | (go_at_call_of 92 (Value.int IntKind.i64 13); refine (turn13 x _).mono ?_; rintro e w1 ⟨rfl, rfl⟩)
    | (go_at_call_of 92 (Value.int IntKind.i64 22); refine (turn22 x _).mono ?_; rintro e w1 ⟨rfl, rfl⟩))
  go_ret
  exact ⟨rfl, rfl⟩
end Go.Proofs.YtpogpfabnkgkfaaDoor
