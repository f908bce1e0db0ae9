/- slices.IndexFunc over the wanted packs, walked. -/
import Derived.Test.YtpogpfabnkgkfaaDoorB
namespace Go.Proofs.YtpogpfabnkgkfaaDoor
open Go.RowKit Go.BigFrame

def idxOf (ids : List (List UInt8)) (y : List UInt8) : Int :=
  match ids.findIdx? (fun x => decide (x = y)) with
  | some i => i
  | none => -1

theorem idxOf_found {ids : List (List UInt8)} {y : List UInt8} {k : Nat} (hk : k < ids.length) (h0 : ∀ j, j < k → ids.getD j [] ≠ y) (h1 : ids.getD k [] = y) : idxOf ids y = k := by
  have h : ids.findIdx? (fun x => decide (x = y)) = some k := by
    rw [List.findIdx?_eq_some_iff_getElem]
    refine ⟨hk, ?_, ?_⟩
    · simpa [List.getD, hk] using h1
    · intro j hj
      have := h0 j hj
      have hj' : j < ids.length := by omega
      simpa [List.getD, hj'] using this
  simp [idxOf, h]
theorem idxOf_none {ids : List (List UInt8)} {y : List UInt8} (h0 : ∀ j, j < ids.length → ids.getD j [] ≠ y) : idxOf ids y = -1 := by
  have h : ids.findIdx? (fun x => decide (x = y)) = none := by
    rw [List.findIdx?_eq_none_iff]
    intro x hx
    obtain ⟨j, hj, rfl⟩ := List.mem_iff_getElem.1 hx
    have := h0 j hj
    simpa [List.getD, hj] using this
  simp [idxOf, h]

set_option maxHeartbeats 1000000 in
theorem indexw_any (g cap c : Nat) (ws : List Nat) (ids : List (List UInt8)) (y : List UInt8) (w : World) (hn : ids.length ≤ 9223372036854775807) (hy : y.length = 32)
    (hcell : ∀ j, j < ids.length → w.cell? ⟨g, j, none⟩ = some (.pointer (some ⟨ws.getD j 0, 0, none⟩)))
    (hids : ∀ j, j < ids.length → w.rangeAt (ws.getD j 0) 0 (cellsOf (ids.getD j [])) ∧ (ids.getD j []).length = 32) (hc : w.rangeAt c 0 (cellsOf y)) :
    Calls Tryd.prog 35 #[.slice (some ⟨g, 0, none⟩) ids.length cap, .func (.func 36) #[] #[.pointer (some ⟨c, 0, none⟩)]] w fun e w' => e = .returned (.int .i64 (idxOf ids y)) ∧ ∃ n, w' = w.drewN n := by
  have H0 := Lib.hid hids; clear hids
  have H1 := Lib.hid hcell; clear hcell
  have H2 := Lib.hid hc; clear hc
  have H3 := Lib.hid hy; clear hy
  have HF : Hid (∀ k : Nat, k < ids.length → (∀ j, j < k → ids.getD j [] ≠ y) → ids.getD k [] = y → idxOf ids y = k) := fun _ h1 h2 h3 => idxOf_found h1 h2 h3
  have HN := Lib.hid (@idxOf_none ids y)
  go_enter Tryd.func35, Tryd.ntmps35
  go_wp2
  go_loopw [5, 8] (fun _ cn wr => ∃ k : Nat, k ≤ ids.length ∧ cn = .int .i64 k ∧ Hid (∀ j, j < k → ids.getD j [] ≠ y) ∧ ∃ m, wr = w.drewN m) (fun _ cn _ => ids.length - (intOf cn).toNat)
  case atStart => exact ⟨0, Nat.zero_le _, rfl, Lib.hid (fun _ h => absurd h (Nat.not_lt_zero _)), 0, rfl⟩
  case round =>
    obtain ⟨k, hk, rfl, H4, m, rfl⟩ := hrel
    by_cases hlt : k < ids.length
    · have g1 := H1.out k hlt
      have hb := H0.out k hlt
      obtain ⟨hb1, hb2⟩ := hb
      have HF1 := Lib.hid (HF.out k hlt H4.out)
      have HX : Hid (∀ h : ids.getD k [] ≠ y, ∀ j, j < k + 1 → ids.getD j [] ≠ y) := fun h j hj => by
        rcases Nat.lt_succ_iff_lt_or_eq.1 hj with h' | rfl
        · exact H4.out j h'
        · exact h
      generalize ids.getD k [] = x at hb1 hb2 HF1 HX
      generalize ws.getD k 0 = wb at hb1 g1
      have hcall := fun w => same1_any x y hb2 H3.out wb c w
      have HB := Lib.hid hb1
      clear hb1 hb2
      by_cases heq : x = y
      · have HR := Lib.hid (HF1.out heq)
        have HQ := Lib.hid (decide_eq_true heq)
        clear heq
        go_wp2_with (go_at_call 36; refine (hcall _ (by exact HB.out) (by exact H2.out)).mono ?_; clear hcall; rintro e w' ⟨rfl, q, rfl⟩; rw [HQ.out])
        go_ret
        exact ⟨ret_i HR.out.symm, _, rfl⟩
      · have HR := Lib.hid (HX.out heq)
        have HQ := Lib.hid (decide_eq_false heq)
        clear heq
        go_wp2_with (go_at_call 36; refine (hcall _ (by exact HB.out) (by exact H2.out)).mono ?_; clear hcall; rintro e w' ⟨rfl, q, rfl⟩; rw [HQ.out])
        go_roundw
        case rel => exact ⟨k + 1, by omega, by go_num, HR, m + q, by simp [World.drewN_drewN]⟩
        case measure => simp [intOf]; omega
    · obtain rfl : k = ids.length := by omega
      go_wp2
      go_ret
      exact ⟨ret_i (HN.out H4.out).symm, m, rfl⟩
end Go.Proofs.YtpogpfabnkgkfaaDoor
