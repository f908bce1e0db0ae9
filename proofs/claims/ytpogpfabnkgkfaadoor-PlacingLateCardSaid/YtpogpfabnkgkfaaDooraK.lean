/- slices.Grow of nil and slices.Concat, walked. -/
import Derived.Test.YtpogpfabnkgkfaaDooraJ
namespace Go.Proofs.YtpogpfabnkgkfaaDoor
open Go.RowKit Go.BigFrame Go.Maps Go.Shelf Go.Sort
set_option maxRecDepth 100000

set_option maxHeartbeats 1000000 in
/-- slices.Grow of nil. -/
theorem grow_nil (n : Nat) (hn : 0 < n) (hn2 : n ≤ 17592186044415) (w : World) :
    Calls Tryd.prog 91 #[.slice none 0 0, .int .i64 n] w fun e w' => ∃ v, e = .returned v ∧ w'.ownsRow w.heap.size 5 1 v 0 [] ∧ Below w.heap.size w w' := by
  obtain ⟨i0, hi, hz0, hz1, hz2⟩ := info_parts Tryd.infoByte
  have hm : grownCap w n 0 5 ≤ maxLen := grownCap_le_maxLen w n 0 5 (by unfold maxLen; omega)
  have hge : n ≤ grownCap w n 0 5 := grownCap_ge w n 0 5
  have hrz : ∀ ty, (Builtin.append_ #[22, 3] ty #[.slice none 0 0, .int .i64 (n : Int)]).run Tryd.prog w =
      .ok (.slice (some ⟨w.heap.size, 0, none⟩) n (grownCap w n 0 5)) (w.drew.alloc (.cells (#[] ++ Builtin.zeroCells #[.int .u8 0] n ++ Builtin.zeroCells #[.int .u8 0] (grownCap w n 0 5 - n)) 5)) := fun ty => by
    have h := Lib.run_append_grow_zeros w 22 3 ty 5 i0 (.int .u8 0) .i64 .i64 Tryd.underlying22 Tryd.underlying3 hi hz0 none 0 0 [] (by rw [hz1]; exact run_firstCells_none w.drew 1 0 0 0) n (by omega) (by omega) (by omega) (by omega)
      (by rw [hz2]; omega) (by rw [hz2]; exact growslice_fits (by omega) (by omega))
    rw [Nat.zero_add] at h
    exact h
  have HO : Hid ((w.drew.alloc (.cells (#[] ++ Builtin.zeroCells #[.int .u8 0] n ++ Builtin.zeroCells #[.int .u8 0] (grownCap w n 0 5 - n)) 5)).ownsRow w.heap.size 5 1 (.slice (some ⟨w.heap.size, 0, none⟩) 0 (grownCap w n 0 5)) 0 []) := by
    refine World.ownsRow_made w.drew _ _ (Nat.le_refl _) hm ?_
    simp only [Array.size_append, size_zeroCells]
    simp
    omega
  generalize grownCap w n 0 5 = G at *
  generalize (#[] ++ Builtin.zeroCells #[.int .u8 0] n ++ Builtin.zeroCells #[.int .u8 0] (G - n)) = cz at *
  have hG : (G : Int) ≤ 9223372036854775807 := by unfold maxLen at hm; omega
  have hm2 := hm
  unfold maxLen at hm2
  have h4 : (n : Int) > 0 := by omega
  clear hm
  have HRZ := Lib.hid hrz
  clear hrz
  go_enter Tryd.func91, Tryd.ntmps91
  go_wp2_with (at_builtin; refine Lib.wpList_append_run _ rfl _ _ _ _ rfl _ _ rfl rfl _ _ (HRZ.out _) ?_)
  go_ret
  exact ⟨_, rfl, HO.out, (Below.refl _ _).drew.alloc (Nat.le_refl _) _⟩

/-- A slice of bytes that lies somewhere. -/
def PartAt (w : World) (v : Value) (l : List UInt8) : Prop :=
  ∃ b o cap, v = .slice (some ⟨b, o, none⟩) l.length cap ∧ b < w.heap.size ∧ ∀ j u, (cellsOf l)[j]? = some u → w.cell? ⟨b, o + j, none⟩ = some u
def PartsIn (w : World) (b o : Nat) (vs : List Value) (ls : List (List UInt8)) : Prop :=
  b < w.heap.size ∧ vs.length = ls.length ∧ (∀ (i : Nat) v, vs[i]? = some v → w.cell? ⟨b, o + i, none⟩ = some v) ∧ ∀ (i : Nat) v l, vs[i]? = some v → ls[i]? = some l → PartAt w v l
theorem PartAt.below {w w' : World} {v : Value} {l : List UInt8} (h : PartAt w v l) (hb : Below w.heap.size w w') : PartAt w' v l := by
  obtain ⟨b, o, cap, h1, h2, h3⟩ := h
  exact ⟨b, o, cap, h1, by have := hb.size; omega, fun j u hj => by rw [hb.cell (p := ⟨b, o + j, none⟩) h2]; exact h3 j u hj⟩
theorem PartsIn.below {w w' : World} {b o : Nat} {vs : List Value} {ls : List (List UInt8)} (h : PartsIn w b o vs ls) (hb : Below w.heap.size w w') : PartsIn w' b o vs ls :=
  ⟨by have := hb.size; have := h.1; omega, h.2.1, fun i v hi => by rw [hb.cell (p := ⟨b, o + i, none⟩) h.1]; exact h.2.2.1 i v hi, fun i v l h1 h2 => (h.2.2.2 i v l h1 h2).below hb⟩
theorem PartsIn.at_ {w : World} {b o : Nat} {vs : List Value} {ls : List (List UInt8)} (h : PartsIn w b o vs ls) (i : Nat) (hi : i < ls.length) : ∃ pb po cap, w.cell? ⟨b, o + i, none⟩ = some (.slice (some ⟨pb, po, none⟩) (ls[i]'hi).length cap) ∧ pb < w.heap.size ∧ ∀ j u, (cellsOf (ls[i]'hi))[j]? = some u → w.cell? ⟨pb, po + j, none⟩ = some u := by
  have hv : i < vs.length := by rw [h.2.1]; exact hi
  obtain ⟨pb, po, cap, e, h1, h2⟩ := h.2.2.2 i vs[i] ls[i] (List.getElem?_eq_getElem hv) (List.getElem?_eq_getElem hi)
  exact ⟨pb, po, cap, by rw [h.2.2.1 i vs[i] (List.getElem?_eq_getElem hv), e], h1, h2⟩
def sumLen (ls : List (List UInt8)) (k : Nat) : Nat := (ls.take k).flatten.length
theorem sumLen_succ (ls : List (List UInt8)) (k : Nat) (h : k < ls.length) : sumLen ls (k + 1) = sumLen ls k + (ls[k]'h).length := by
  unfold sumLen
  rw [List.take_succ_eq_append_getElem h, List.flatten_append, List.length_append]
  simp only [List.flatten_cons, List.flatten_nil, List.append_nil]
theorem sumLen_le (ls : List (List UInt8)) (k : Nat) : sumLen ls k ≤ ls.flatten.length := by
  unfold sumLen
  conv => rhs; rw [← List.take_append_drop k ls]
  rw [List.flatten_append, List.length_append]
  omega
theorem flat_succ (ls : List (List UInt8)) (k : Nat) (h : k < ls.length) : (ls.take (k + 1)).flatten = (ls.take k).flatten ++ (ls[k]'h) := by
  rw [List.take_succ_eq_append_getElem h, List.flatten_append]
  simp only [List.flatten_cons, List.flatten_nil, List.append_nil]

structure CcAt (w0 : World) (xs : List UInt8) (v : Value) (w : World) : Prop where
  row : w.ownsRow w0.heap.size 5 1 v xs.length (cellsOf xs)
  below : Below w0.heap.size w0 w
theorem CcAt.add {w0 wr w1 : World} {xs ys : List UInt8} {v v' : Value} (k : CcAt w0 xs v wr) (hown : w1.ownsRow w0.heap.size 5 1 v' (xs.length + ys.length) (cellsOf xs ++ cellsOf ys)) (hgrow : wr.grownBy w1 v.ownBlock) : CcAt w0 (xs ++ ys) v' w1 := by
  refine ⟨?_, k.below.grown hgrow k.below.size (fun g e => (k.row.lt g e).1)⟩
  have e : cellsOf (xs ++ ys) = cellsOf xs ++ cellsOf ys := by simp [cellsOf]
  rw [e, List.length_append]
  exact hown

set_option maxHeartbeats 2000000 in
theorem concat_any (b o c : Nat) (vs : List Value) (ls : List (List UInt8)) (w : World) (hP : PartsIn w b o vs ls) (hl0 : 0 < ls.flatten.length) (hl1 : ls.flatten.length ≤ 17592186044415) (hn : ls.length ≤ 1099511627776) :
    Calls Tryd.prog 75 #[.slice (some ⟨b, o, none⟩) ls.length c] w fun e w' => ∃ v, e = .returned v ∧ w'.ownsRow w.heap.size 5 1 v ls.flatten.length (cellsOf ls.flatten) ∧ Below w.heap.size w w' := by
  obtain ⟨i0, hi, hz0, hz1, hz2⟩ := info_parts Tryd.infoByte
  have HP := Lib.hid hP
  clear hP
  obtain ⟨N, HN0⟩ : ∃ N, Hid (N = ls.flatten.length) := ⟨_, rfl⟩
  have hle0 : ∀ k, sumLen ls k ≤ N := fun k => by rw [HN0.out]; exact sumLen_le ls k
  have HLE := Lib.hid hle0
  clear hle0
  rw [← HN0.out] at hl0 hl1 ⊢
  go_enter Tryd.func75, Tryd.ntmps75
  go_wp2
  go_loop [3, 11] (fun sz ix => ∃ k : Nat, k ≤ ls.length ∧ ix = .int .i64 k ∧ sz = .int .i64 (sumLen ls k)) (fun _ ix => ls.length - (intOf ix).toNat)
  case atStart => exact ⟨0, Nat.zero_le _, rfl, rfl⟩
  case round =>
    obtain ⟨k, hk, rfl, rfl⟩ := hrel
    by_cases hkl : k < ls.length
    · obtain ⟨pb, po, cap, hcell, _, _⟩ := HP.out.at_ k hkl
      have hs := sumLen_succ ls k hkl
      have hle := HLE.out (k + 1)
      have hge : 0 ≤ (sumLen ls k : Int) + ((ls[k]'hkl).length : Int) := by omega
      have HS : Hid ((sumLen ls k : Int) + ((ls[k]'hkl).length : Int) = (sumLen ls (k + 1) : Int)) := by show _ = _; omega
      have hsm : sumLen ls k + (ls[k]'hkl).length ≤ 17592186044415 := by omega
      generalize (ls[k]'hkl) = lk at *
      clear hs hle
      go_wp2
      go_round
      case rel => exact ⟨k + 1, by omega, by go_num, by rw [HS.out]⟩
      case measure => simp [intOf]; omega
    · obtain rfl : k = ls.length := by omega
      have hsz : sumLen ls ls.length = N := by unfold sumLen; rw [List.take_length, HN0.out]
      rw [hsz]
      clear hsz
      have HG := Lib.hid (grow_nil N hl0 hl1 w)
      go_wp2_with (go_at_call 91; refine HG.out.mono ?_; rintro e w1 ⟨v, rfl, h1, h2⟩; have HK0 : Hid (CcAt w [] v w1) := ⟨h1, h2⟩; clear h1 h2; obtain ⟨ao, cp, rfl, _⟩ := row_shape HK0.out.row)
      go_loopw [6, 27] (fun sv ix wr => ∃ (k : Nat) (xs : List UInt8) (a1 : Option Addr) (c1 : Nat), k ≤ ls.length ∧ ix = .int .i64 k ∧ sv = .slice a1 xs.length c1 ∧ Hid (CcAt w xs (.slice a1 xs.length c1) wr ∧ xs = (ls.take k).flatten)) (fun _ ix _ => ls.length - (intOf ix).toNat)
      case atStart => exact ⟨0, [], ao, cp, Nat.zero_le _, rfl, rfl, HK0.out, by simp⟩
      case round =>
        obtain ⟨k, xs, a1, c1, hk, rfl, rfl, HK⟩ := hrel
        by_cases hkl : k < ls.length
        · obtain ⟨pb, po, cap, hcell, _, hcs⟩ := (HP.out.below HK.out.1.below).at_ k hkl
          have hx : xs.length = sumLen ls k := by rw [HK.out.2]; rfl
          have hs := sumLen_succ ls k hkl
          have hle := HLE.out (k + 1)
          have hb : xs.length + (ls[k]'hkl).length ≤ 17592186044415 := by omega
          have HX : Hid (xs ++ (ls[k]'hkl) = (ls.take (k + 1)).flatten) := by show _ = _; rw [flat_succ ls k hkl, HK.out.2]
          have HN : Hid (∀ j u, (cellsOf (ls[k]'hkl))[j]? = some u → wr.cell? ((⟨pb, po, none⟩ : Addr).add j) = some u) := fun j u hj => by rw [Addr.add_mid]; exact hcs j u hj
          clear hx hs hle hcs
          generalize (ls[k]'hkl) = lk at *
          have H1 := Lib.hid (cells_u8_one lk)
          have HL : Hid ((cellsOf lk).length = lk.length * 1) := by show _ = _; simp
          go_wp2_with (at_builtin; refine wpList_append_own _ rfl (.tmp 31) (.tmp 32) 22 rfl w.heap.size 5 i0 (.int .u8 0) 1 1 Tryd.underlying22 hi hz0 hz1 hz2 rfl (by decide) _ _ _ rfl HK.out.1.row ⟨pb, po, none⟩ lk.length cap (cellsOf lk) rfl HL.out HN.out H1.out (by unfold maxLen; omega) (by omega) (by have := HK.out.1.below.size; omega) ?_; intro v2 w2 hown hgrow hnil; have HK2 := Lib.hid (HK.out.1.add (ys := lk) hown hgrow); clear hown hgrow hnil; obtain ⟨ao3, cp3, rfl, _⟩ := row_shape HK2.out.row)
          go_roundw
          case rel => exact ⟨k + 1, xs ++ lk, ao3, cp3, by omega, by go_num, by rw [List.length_append], HK2.out, HX.out⟩
          case measure => simp [intOf]; omega
        · obtain rfl : k = ls.length := by omega
          have HFL : Hid (xs = ls.flatten) := by show _ = _; rw [HK.out.2, List.take_length]
          go_wp2
          go_ret
          exact ⟨_, rfl, by rw [HN0.out, ← HFL.out]; exact HK.out.1.row, HK.out.1.below⟩
end Go.Proofs.YtpogpfabnkgkfaaDoor
