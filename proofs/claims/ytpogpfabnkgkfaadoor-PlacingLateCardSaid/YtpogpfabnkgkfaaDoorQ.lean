/- placing.New, walked: for rising partners. -/
import Derived.Test.YtpogpfabnkgkfaaDoorP
namespace Go.Proofs.YtpogpfabnkgkfaaDoor
open Go.RowKit Go.BigFrame Go.Maps Go.Shelf Go.Sort
set_option maxRecDepth 100000

theorem row_nil_pat (k : Int) (ps : List Int) (pb : Nat) (pv : Value) (w : World) (hb : w.heap[pb]? = some (.cells #[.int .i64 k, pv, .slice none 0 0] 51 (0, 0))) (hk : 1 ≤ k ∧ k ≤ 8)
    (hp : w.ownsRow 0 3 1 pv ps.length (ps.map (Value.int .i64))) (hn : ∀ p ∈ ps, 0 ≤ p ∧ p < 64) (hs : ps.Pairwise (· < ·)) : PAt w ⟨pb, pv, .slice none 0 0, []⟩ ⟨k, ps, []⟩ :=
  ⟨hb, hk, hp, hn, hs, World.ownsRow_nil _ _ _ _, Nat.zero_le _, rfl, fun i l x h1 _ => by simp at h1, List.nodup_nil⟩

/-- All that a placer writes to lies from block B on. -/
def Since (B : Nat) (L : PL) : Prop := B ≤ L.pb ∧ (∀ g, L.lv.ownBlock = some g → B ≤ g) ∧ ∀ l ∈ L.ws, B ≤ l.mb
theorem Since.want {B : Nat} {L : PL} (h : Since B L) {w w' : World} (ho : Only (fun i => i = L.pb ∨ L.lv.ownBlock = some i) w w') {w0 : World} (hb : Below B w0 w) (hB : B ≤ w0.heap.size) : Below B w0 w' :=
  ⟨ho.os.trans hb.os, ho.tape.trans hb.tape, ho.output.trans hb.output, Nat.le_trans hb.size ho.size, fun k hk => by
    rw [ho.block k (Nat.lt_of_lt_of_le hk (Nat.le_trans hB hb.size)) (fun e => by
      rcases e with e | e
      · have := h.1; omega
      · have := h.2.1 k e; omega)]
    exact hb.block k hk⟩

theorem since_new (B pb : Nat) (pv : Value) (h : B ≤ pb) : Since B ⟨pb, pv, .slice none 0 0, []⟩ := ⟨h, fun g e => (by cases e), fun l hl => (by cases hl)⟩
set_option maxHeartbeats 2000000 in
theorem new_any (k : Int) (ps : List Int) (b o cap : Nat) (w : World) (hk : 1 ≤ k ∧ k ≤ 8) (hn : ∀ p ∈ ps, 0 ≤ p ∧ p < 64) (hs : ps.Pairwise (· < ·)) (hlen : ps.length ≤ 64)
    (hc : ∀ j, j < ps.length → w.cell? ⟨b, o + j, none⟩ = some (.int .i64 (ps.getD j 0))) (hb : b < w.heap.size) :
    Calls Tryd.prog 5 #[.int .i64 k, .slice (some ⟨b, o, none⟩) ps.length cap] w fun e w' => ∃ L : PL, e = .returned (.tuple #[.pointer (some ⟨L.pb, 0, none⟩), .int .i64 0]) ∧ PAt w' L ⟨k, ps, []⟩ ∧ L.ws = [] ∧ Since w.heap.size L ∧ Below w.heap.size w w' := by
  obtain ⟨hk0, hk1⟩ := hk
  have d1 : decide (k < 1) = false := decide_eq_false (by omega)
  have d2 : decide (8 < k) = false := decide_eq_false (by omega)
  have HC := Lib.hid hc
  have HN : Hid (∀ j, j < ps.length → 0 ≤ ps.getD j 0 ∧ ps.getD j 0 < 64) := fun j hj => hn _ (by simp [List.getD, hj])
  have HSO : Hid (∀ j, j + 1 < ps.length → ps.getD j 0 < ps.getD (j + 1) 0) := fun j hj => by
    have e := List.pairwise_iff_getElem.1 hs j (j + 1) (by omega) hj (by omega)
    simpa [List.getD, hj, (by omega : j < ps.length)] using e
  have HPAT := Lib.hid (fun pb pv w' hb' hp => row_nil_pat k ps pb pv w' hb' ⟨hk0, hk1⟩ hp hn hs)
  have HONE : Hid (∀ u ∈ ps.map (Value.int .i64), u.oneCell' = true) := fun u hu => by
    obtain ⟨x, _, rfl⟩ := List.mem_map.1 hu; rfl
  have HLM : Hid ((ps.map (Value.int .i64)).length = ps.length) := List.length_map _
  have HCM : Hid (∀ j u, (ps.map (Value.int .i64))[j]? = some u → w.cell? ⟨b, o + j, none⟩ = some u) := fun j u hj => by
    have hj' : j < ps.length := by simpa using (List.getElem?_eq_some_iff.1 hj).1
    rw [hc j hj']
    simp [hj'] at hj
    simp [List.getD, hj', hj]
  clear hc hn hs
  go_enter Tryd.func5, Tryd.ntmps5
  go_wp2
  go_loopw [6, 7, 16] (fun _ _ cn wr => wr = w ∧ ∃ i : Nat, i ≤ ps.length ∧ cn = .int .i64 i) (fun _ _ cn _ => ps.length - (intOf cn).toNat)
  case atStart => exact ⟨rfl, 0, Nat.zero_le _, rfl⟩
  case round =>
    obtain ⟨rfl, i, hi, rfl⟩ := hrel
    by_cases hlt : i < ps.length
    · obtain ⟨hx0, hx1⟩ := HN.out i hlt
      have hci := HC.out i hlt
      by_cases hi0 : i = 0
      · subst hi0
        rw [Nat.add_zero] at hci
        generalize ps.getD 0 0 = x at *
        have d3 : decide (x < 0) = false := decide_eq_false (by omega)
        have d4 : decide (64 ≤ x) = false := decide_eq_false (by omega)
        go_wp2
        go_roundw
        case rel => exact ⟨by first | rfl | trivial, 1, by omega, by go_num⟩
        case measure => simp [intOf]; omega
      · obtain ⟨m, rfl⟩ : ∃ m, i = m + 1 := ⟨i - 1, by omega⟩
        have hcm := HC.out m (by omega)
        have hso := HSO.out m hlt
        generalize ps.getD m 0 = y at *
        generalize ps.getD (m + 1) 0 = x at *
        have d3 : decide (x < 0) = false := decide_eq_false (by omega)
        have d4 : decide (64 ≤ x) = false := decide_eq_false (by omega)
        have d5 : decide ((0 : Int) < (m : Int) + 1) = true := decide_eq_true (by omega)
        have d6 : decide (x ≤ y) = false := decide_eq_false (by omega)
        have d7 : IntKind.i64.wrap ((m : Int) + 1 - 1) = m := by rw [Int.add_sub_cancel, IntKind.wrap_i64]; omega
        go_wp2
        go_roundw
        case rel => exact ⟨by first | rfl | trivial, m + 2, by omega, by go_num⟩
        case measure => simp [intOf]; omega
    · obtain rfl : i = ps.length := by omega
      go_wp2_with (go_at_call 16; rw [← HLM.out]; refine (clonei_any b o cap _ _ HONE.out (by rw [HLM.out]; omega) HCM.out hb).mono ?_; rintro e w1 ⟨v, rfl, hrow, hb1, _⟩; obtain ⟨ao1, cap1, rfl, _⟩ := row_shape hrow; have HR := Lib.hid hrow; have HB1 := Lib.hid hb1; clear hrow hb1)
      go_ret2
      have hrow := HR.out
      exact ⟨⟨w1.heap.size, _, .slice none 0 0, []⟩, rfl, HPAT.out _ _ _ (heap_alloc_new _ _) (by first | exact row_below (row_base hrow (Nat.zero_le _)) ((Below.refl _ _).alloc (Nat.le_refl _) _) | (rw [← HLM.out]; exact row_below (row_base hrow (Nat.zero_le _)) ((Below.refl _ _).alloc (Nat.le_refl _) _))), rfl, since_new _ _ _ HB1.out.size, HB1.out.alloc HB1.out.size _⟩
end Go.Proofs.YtpogpfabnkgkfaaDoor
