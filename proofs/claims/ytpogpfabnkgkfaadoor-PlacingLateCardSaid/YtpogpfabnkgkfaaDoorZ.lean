/- The whole law PlacingLate, walked: once packs.Id is reckoned. -/
import Derived.Test.YtpogpfabnkgkfaaDoorY
namespace Go.Proofs.YtpogpfabnkgkfaaDoor
open Go.RowKit Go.BigFrame Go.Maps Go.Shelf Go.Sort
set_option maxRecDepth 100000

set_option maxHeartbeats 2000000 in
theorem late_triv (G : World → Prop) (f : List UInt8 → List UInt8) (hf : IdSays G f) (n : Nat) (a : Option Addr) (len cap : Nat) (h : len = 0 ∨ 200 < len) (w : World) (hG : G w) :
    Calls Tryd.prog 3 #[.int .u8 n, .slice a len cap] w fun e w' => e = .returned (.bool true) ∧ Below w.heap.size w w' := by
  have HAW := Lib.hid (awake_any G f hf w hG)
  rcases h with rfl | h
  · go_enter Tryd.func3, Tryd.ntmps3
    go_wp2_with (first
      | (go_at_call 4; refine HAW.out.mono ?_; rintro e w1 ⟨rfl, hb⟩; have HB1 := Lib.hid hb; clear hb))
    go_ret
    exact ⟨rfl, HB1.out⟩
  · have d1 : decide ((len : Int) = 0) = false := decide_eq_false (by omega)
    have d1' : ((len : Int) == 0) = false := by rw [beq_eq_false_iff_ne]; omega
    have d2 : decide ((200 : Int) < (len : Int)) = true := decide_eq_true (by omega)
    go_enter Tryd.func3, Tryd.ntmps3
    go_wp2_with (first
      | (go_at_call 4; refine HAW.out.mono ?_; rintro e w1 ⟨rfl, hb⟩; have HB1 := Lib.hid hb; clear hb))
    go_ret
    exact ⟨rfl, HB1.out⟩
/-- The law, whatever the input, once ids are reckoned. -/
theorem law_late (G : World → Prop) (f : List UInt8 → List UInt8) (hf : IdSays G f) (n : Nat) (v : Value) (b : List UInt8) (w : World) (hG : G w) (h : SliceAt w v (cellsOf b)) :
    Calls Tryd.prog 3 #[.int .u8 n, v] w fun e w' => e = .returned (.bool true) ∧ Below w.heap.size w w' := by
  rcases h with ⟨rfl, _⟩ | ⟨bb, o, cap, rfl, hbb, hcp, hs⟩
  · exact late_triv G f hf n none 0 0 (Or.inl rfl) w hG
  · have hl : (cellsOf b).length = b.length := by simp
    rw [hl]
    by_cases hb : 1 ≤ b.length ∧ b.length ≤ 200
    · exact late_main G f hf n b bb o cap hb.1 hb.2 w hG hs hbb (by rw [← hl]; exact hcp)
    · exact late_triv G f hf n _ b.length cap (by omega) w hG
end Go.Proofs.YtpogpfabnkgkfaaDoor
