/- proof.Root, walked: for one byte or more. -/
import Derived.Test.YtpogpfabnkgkfaaDooraR
namespace Go.Proofs.YtpogpfabnkgkfaaDoor
open Go.RowKit Go.BigFrame Go.Maps Go.Shelf Go.Sort
set_option maxRecDepth 100000

/-! The root. -/
def topS : Nat → List (List UInt8) → List UInt8
  | 0, ids => ids.getD 0 []
  | k + 1, ids => if ids.length ≤ 1 then ids.getD 0 [] else topS k (aboveS ids)
theorem topS_one (k : Nat) (ids : List (List UInt8)) (h : ids.length ≤ 1) : topS k ids = ids.getD 0 [] := by
  cases k with
  | zero => rfl
  | succ k => rw [topS, if_pos h]
def rootS (b : List UInt8) : List UInt8 := digS (crownS (partsOf b.length 64) (topS (partsOf b.length 64) (rowS b (partsOf b.length 64))))
theorem rootS_len (b : List UInt8) : (rootS b).length = 32 := digS_len _
theorem rowS_32 (b : List UInt8) (k : Nat) : All32 (rowS b k) := fun x hx => by
  obtain ⟨i, _, rfl⟩ := List.mem_map.1 hx
  exact digS_len _
structure RtAt (w0 : World) (ids : List (List UInt8)) (v : Value) (w : World) : Prop where
  row : w.ownsRow w0.heap.size 30 32 v ids.length (idCells ids)
  below : Below w0.heap.size w0 w
  out : w.heap[w0.heap.size]? = some (.cells zeroId.toArray 30 (0, 0))
theorem row_cells32 {w : World} {base n g cap : Nat} {xs : List Value} (h : w.ownsRow base 30 32 (.slice (some ⟨g, 0, none⟩) n cap) n xs) : ∀ j u, xs[j]? = some u → w.cell? ⟨g, 0 + j, none⟩ = some u := fun j u hj => by
  have e := h.cells (g := g) rfl j u hj
  rwa [Addr.add_mid] at e

set_option maxHeartbeats 4000000 in
theorem root_any (b off cap : Nat) (bs : List UInt8) (h0 : 0 < bs.length) (hreach : bs.length ≤ 1073741824) (hcap : bs.length ≤ cap) (w : World) (hG : GAt w) (hb : b < w.heap.size)
    (hs : ∀ j u, (cellsOf bs)[j]? = some u → w.cell? ⟨b, off + j, none⟩ = some u) :
    Calls Tryd.prog 34 #[.slice (some ⟨b, off, none⟩) bs.length cap] w fun e w' => e = .returned (.agg (cellsOf (rootS bs)).toArray) ∧ Below w.heap.size w w' := by
  have hB0 : Below w.heap.size w (w.alloc (.cells zeroId.toArray 30)) := (Below.refl _ _).alloc (Nat.le_refl _) _
  have HDG := Lib.hid (digests_any b off cap bs h0 hreach hcap (w.alloc (.cells zeroId.toArray 30)) (hG.below hB0) (by simp; omega) (fun j u hj => by rw [World.cell?_alloc_past _ _ _ hb]; exact hs j u hj))
  have hpl := partsOf_le bs.length
  have hpm : 0 < partsOf bs.length 64 := by unfold partsOf; omega
  have HRS : Hid (rootS bs = digS (crownS (partsOf bs.length 64) (topS (partsOf bs.length 64) (rowS bs (partsOf bs.length 64))))) := rfl
  have HR32 := Lib.hid (rowS_32 bs (partsOf bs.length 64))
  have hrl := rowS_len bs (partsOf bs.length 64)
  have HB0 := Lib.hid hB0
  have HO0 := Lib.hid (heap_alloc_new w (.cells zeroId.toArray 30))
  clear hs hB0
  generalize rowS bs (partsOf bs.length 64) = rw0 at *
  generalize partsOf bs.length 64 = m at *
  have HML := Lib.hid hrl
  clear hrl
  go_enter Tryd.func34, Tryd.ntmps34
  go_wp2_with (go_at_call 51; refine HDG.out.mono ?_; rintro e w1 ⟨v, rfl, h1, h2⟩; have HK0 : Hid (RtAt w rw0 v w1) := ⟨by rw [HML.out]; exact row_base h1 HB0.out.size, HB0.out.trans (h2.mono HB0.out.size), below_block h2 HO0.out⟩; obtain ⟨a0, c0, rfl, _⟩ := row_shape h1; clear h1 h2)
  obtain ⟨TT, HTT⟩ : ∃ TT, Hid (topS m rw0 = TT) := ⟨_, rfl⟩
  go_loopw [3] (fun sv wr => ∃ (n : Nat) (a1 : Option Addr) (c1 : Nat), sv = .slice a1 n c1 ∧ 1 ≤ n ∧ n ≤ m ∧ Hid (∃ ids k, ids.length = n ∧ RtAt w ids (.slice a1 n c1) wr ∧ All32 ids ∧ n ≤ k ∧ topS k ids = TT)) (fun sv _ => lenV sv)
  case atStart => exact ⟨m, a0, c0, rfl, by omega, Nat.le_refl _, rw0, m, HML.out, HK0.out, HR32.out, Nat.le_refl _, HTT.out⟩
  case round =>
    obtain ⟨n, a1, c1, rfl, hn1, hnm, HE⟩ := hrel
    obtain ⟨ids, HI⟩ : ∃ ids, Hid (∃ k, ids.length = n ∧ RtAt w ids (.slice a1 n c1) wr ∧ All32 ids ∧ n ≤ k ∧ topS k ids = TT) := by
      obtain ⟨ids, k, h⟩ := HE.out; exact ⟨ids, k, h⟩
    clear HE
    obtain ⟨k, hidl, hrt, h32, hnk, htop⟩ := HI.out
    clear HI
    obtain ⟨a1', c1', e1, hsh⟩ := row_shape hrt.row
    obtain ⟨g, rfl, _, hgl⟩ := hsh (by omega)
    injection e1 with e2 e4 e3
    subst e2
    subst e3
    clear e4 hsh
    have hcl := row_le (by have := hrt.row; rw [hidl] at this; exact this)
    have HRT := Lib.hid hrt
    have HTOP := Lib.hid htop
    have H32 := Lib.hid h32
    have HIL := Lib.hid hidl
    by_cases hn2 : 1 < n
    · have HAB := Lib.hid (above_any g 0 c1 ids h32 (by omega) (by omega) (by omega) wr (hG.below hrt.below) hgl (by have := hrt.row; rw [hidl] at this; exact row_cells32 this))
      rw [hidl] at HAB
      have hpn : partsOf n 2 < n := by unfold partsOf; omega
      have hpn1 : 1 ≤ partsOf n 2 := by unfold partsOf; omega
      have HAL : Hid ((aboveS ids).length = partsOf n 2) := by show _ = _; rw [aboveS_len, hidl]
      clear hrt htop h32 hidl
      go_wp2_with (go_at_call 52; refine HAB.out.mono ?_; rintro e w2 ⟨v2, rfl, h1, h2⟩; have HK2 : Hid (RtAt w (aboveS ids) v2 w2) := ⟨by rw [HAL.out]; exact row_base h1 HRT.out.below.size, HRT.out.below.trans (h2.mono HRT.out.below.size), below_block h2 HRT.out.out⟩; obtain ⟨a3, c3, rfl, _⟩ := row_shape h1; clear h1 h2)
      go_roundw
      case rel => exact ⟨partsOf n 2, a3, c3, rfl, hpn1, by omega, aboveS ids, k - 1, HAL.out, HK2.out, aboveS_32 H32.out, by omega, by
        rw [← HTOP.out]
        obtain ⟨k', rfl⟩ : ∃ k', k = k' + 1 := ⟨k - 1, by omega⟩
        rw [topS, if_neg (by rw [HIL.out]; omega), Nat.add_sub_cancel]⟩
      case measure => simp [lenV]; omega
    · obtain rfl : n = 1 := by omega
      have hT : ids.getD 0 [] = TT := by rw [← HTOP.out, topS_one _ _ (by omega)]
      have hT32 : TT.length = 32 := by rw [← hT]; exact h32.at_ (by omega)
      have hr0 : wr.rangeAt g 0 (cellsOf TT) := fun j u hj => by
        rw [Nat.zero_add]
        have e := row_cells32 (by have := hrt.row; rw [hidl] at this; exact this) (32 * 0 + j) u (idCells_at h32 0 (by omega) j u (by rw [hT]; exact hj))
        rwa [Nat.mul_zero, Nat.zero_add, Nat.zero_add] at e
      have HR0 := Lib.hid hr0
      have HL0 : Hid ((Tryd.prog.info? 30).map (·.size) = some (cellsOf TT).length) := by show _ = _; rw [Tryd.sizeId, length_cellsOf, hT32]
      have HCR := Lib.hid (fun wq => crown_any m (by omega) TT hT32 wq)
      have HCL : Hid ((crownS m TT).length = 41) := by show _ = _; simp [crownS, hT32]
      have HGW := Lib.hid (hG.below hrt.below)
      have HRF : Hid (rootS bs = digS (crownS m TT)) := by show _ = _; rw [HRS.out, HTT.out]
      have hdl := digS_len (crownS m TT)
      have HD0 : Hid ((Tryd.prog.info? 30).map (·.size) = some (cellsOf (digS (crownS m TT))).toArray.size) := by show _ = _; rw [Tryd.sizeId, List.size_toArray, length_cellsOf, hdl]
      have HD1 : Hid (zeroId.toArray.size = (cellsOf (digS (crownS m TT))).toArray.size) := by show _ = _; rw [List.size_toArray, List.size_toArray, length_cellsOf, hdl]; rfl
      have HD2 : Hid (((cellsOf (digS (crownS m TT))).toArray).all (·.oneCell') = true) := cellsOf_one _
      have HOF := Lib.hid (fun w2 base gb cb (h : GAt w2) hr => of_row (crownS m TT) (by rw [HCL.out]; omega) (by rw [HCL.out]; omega) w2 base gb cb h hr)
      clear hrt htop h32 hidl hr0 hT
      generalize digS (crownS m TT) = dg at *
      generalize hlcp : (crownS m TT).length = lc at *
      have hlc : lc = 41 := HCL.out
      have HLC := Lib.hid hlc
      clear hlc hlcp
      go_wp2_with (first
        | ((refine wpList_load_mid rfl 30 _ rfl g 0 ?_ (cellsOf TT) _ ?_ Tryd.undId rfl HL0.out ?_); (rfl); (exact HR0.out))
        | (go_at_call 54; refine (HCR.out _).mono ?_; rintro e w2 ⟨v2, rfl, h1, h2⟩; have HB2 := Lib.hid h2; clear h2; obtain ⟨ab, cb, rfl, hab⟩ := row_shape h1; obtain ⟨gb, rfl, _, _⟩ := hab (by rw [HLC.out]; omega); have HR2 := Lib.hid h1; clear h1 hab)
        | (go_at_call 53; refine (HOF.out _ _ _ _ (HGW.out.below HB2.out) HR2.out).mono ?_; rintro e w3 ⟨rfl, h3⟩; have HB3 := Lib.hid (HB2.out.trans (h3.mono HB2.out.size)); clear h3; have HO3 := Lib.hid (below_block HB3.out HRT.out.out))
        | ((with_reducible refine wpList_store_rowTo rfl 30 _ _ rfl rfl w.heap.size (cellsOf dg).toArray ?_ ?_ 30 zeroId.toArray ?_ HD0.out HD1.out HD2.out ?_); (rfl); (rfl); (exact HO3.out)))
      refine bodyPost_ret (results_cell_row rfl _ _ w.heap.size 30 (cellsOf dg).toArray (0, 0) _ rfl (setRow_heap _ _ _ _ _ _ HO3.out) Tryd.undId rfl HD0.out) rfl ⟨by rw [HRF.out], ?_⟩
      exact (HRT.out.below.trans (HB3.out.mono HRT.out.below.size)).trans ⟨rfl, rfl, rfl, by simp [World.setRow], fun i hi => setRow_other _ _ i _ (by omega)⟩
end Go.Proofs.YtpogpfabnkgkfaaDoor
