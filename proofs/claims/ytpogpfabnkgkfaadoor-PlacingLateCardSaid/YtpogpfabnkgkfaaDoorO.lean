/- Placer.find and Holders, walked. -/
import Derived.Test.YtpogpfabnkgkfaaDoorN
namespace Go.Proofs.YtpogpfabnkgkfaaDoor
open Go.RowKit Go.BigFrame Go.Maps Go.Shelf Go.Sort
set_option maxRecDepth 100000

def PM.ids (M : PM) : List (List UInt8) := M.ws.map (·.id)
def findI (M : PM) (y : List UInt8) : Int := idxOf M.ids y

theorem bel_drewN {B : Nat} {a b : World} (h : Below B a b) (n : Nat) : Below B a (b.drewN n) := ⟨h.os, h.tape, h.output, h.size, h.block⟩
theorem indexw_empty (a : Option Addr) (cap : Nat) (f : Value) (w : World) : Calls Tryd.prog 35 #[.slice a 0 cap, f] w fun e w' => e = .returned (.int .i64 (-1)) ∧ w = w' := by
  go_enter Tryd.func35, Tryd.ntmps35
  go_wp2
  refine wp_loop_rounds 1 ?_
  rw [rounds_succ]
  go_wp2
  go_ret
  exact ⟨rfl, rfl⟩
theorem rangeAt_new (w : World) (cs : List Value) (t : TypeId) : (w.alloc (.cells cs.toArray t)).rangeAt w.heap.size 0 cs := fun j v hj => by
  rw [Nat.zero_add, cell_of_row _ _ _ _ _ _ (heap_alloc_new w (.cells cs.toArray t))]
  simpa using hj

theorem find_nil (v : Value) (w : World) (y : List UInt8) (hv : v = .agg (cellsOf y).toArray) : Calls Tryd.prog 18 #[.pointer none, v] w fun e w' => e = .returned (.int .i64 (-1)) ∧ Below w.heap.size w w' := by
  subst hv
  go_enter Tryd.func18, Tryd.ntmps18
  go_wp2
  go_ret
  exact ⟨rfl, (Below.refl _ _).alloc (Nat.le_refl _) _⟩

set_option maxHeartbeats 1000000 in
theorem find_any (L : PL) (M : PM) (y : List UInt8) (hy : y.length = 32) (w : World) (h : PAt w L M) :
    Calls Tryd.prog 18 #[.pointer (some ⟨L.pb, 0, none⟩), .agg (cellsOf y).toArray] w fun e w' => e = .returned (.int .i64 (findI M y)) ∧ Below w.heap.size w w' := by
  obtain ⟨ao, cap, hlv, hao⟩ := row_shape h.lv
  have c2 := h.cells.2.2
  rw [hlv] at c2
  have hpb := h.lt
  by_cases h0 : L.ws.length = 0
  · have hf : findI M y = -1 := by
      have : M.ws = [] := List.eq_nil_of_length_eq_zero (by rw [← h.len]; exact h0)
      unfold findI PM.ids; rw [this]; rfl
    have HF := Lib.hid hf
    rw [h0] at c2
    clear hlv h hf hao h0
    go_enter Tryd.func18, Tryd.ntmps18
    go_wp2_with (go_at_call 35; refine (indexw_empty _ _ _ _).mono ?_; rintro e w1 ⟨rfl, rfl⟩)
    go_ret
    exact ⟨ret_i HF.out.symm, (Below.refl _ _).alloc (Nat.le_refl _) _⟩
  · obtain ⟨g, rfl, hg1, hg2⟩ := hao h0
    have hidl : M.ids.length = L.ws.length := by simp [PM.ids, h.len]
    have hcell : ∀ j, j < M.ids.length → (w.alloc (.cells (cellsOf y).toArray 30)).cell? ⟨g, j, none⟩ = some (.pointer (some ⟨(L.ws.map (·.wb)).getD j 0, 0, none⟩)) := fun j hj => by
      have hj' : j < L.ws.length := by omega
      have hr := h.lv
      rw [hlv] at hr
      rw [World.cell?_alloc_past _ _ _ hg2, ptr_cell hr j L.ws[j] (by simp [hj'])]
      simp [List.getD, hj']
    have hids : ∀ j, j < M.ids.length → (w.alloc (.cells (cellsOf y).toArray 30)).rangeAt ((L.ws.map (·.wb)).getD j 0) 0 (cellsOf (M.ids.getD j [])) ∧ (M.ids.getD j []).length = 32 := fun j hj => by
      have hj' : j < L.ws.length := by omega
      have hj2 : j < M.ws.length := by rw [← h.len]; exact hj'
      have hx := h.ws j L.ws[j] M.ws[j] (by simp [hj']) (by simp [hj2])
      have e1 : (L.ws.map (·.wb)).getD j 0 = L.ws[j].wb := by simp [List.getD, hj']
      have e2 : M.ids.getD j [] = M.ws[j].id := by simp [List.getD, PM.ids, hj2]
      rw [e1, e2]
      exact ⟨rangeAt_alloc hx.idCells hx.lt _, hx.id⟩
    have hcall := indexw_any g cap w.heap.size (L.ws.map (·.wb)) M.ids y (w.alloc (.cells (cellsOf y).toArray 30)) (by rw [hidl]; have := h.many; omega) hy hcell hids (rangeAt_new _ _ _)
    rw [hidl] at hcall
    have HC := Lib.hid hcall
    clear hlv h hao hcall hids hcell hidl h0
    go_enter Tryd.func18, Tryd.ntmps18
    go_wp2_with (go_at_call 35; refine HC.out.mono ?_; rintro e w1 ⟨rfl, q, rfl⟩)
    go_ret
    exact ⟨rfl, bel_drewN ((Below.refl _ _).alloc (Nat.le_refl _) _) _⟩

theorem findI_range (M : PM) (y : List UInt8) : -1 ≤ findI M y ∧ findI M y < M.ws.length ∧ (0 ≤ findI M y → ∃ x, M.ws[(findI M y).toNat]? = some x ∧ x.id = y) := by
  unfold findI idxOf
  cases h : M.ids.findIdx? (fun x => decide (x = y)) with
  | none => simp; omega
  | some i =>
    rw [List.findIdx?_eq_some_iff_getElem] at h
    obtain ⟨hi, h1, _⟩ := h
    have hi' : i < M.ws.length := by simpa [PM.ids] using hi
    refine ⟨by simp only []; omega, by simp only []; omega, fun _ => ⟨M.ws[i], by simp [hi'], ?_⟩⟩
    simpa [PM.ids] using h1

def holdersOf (M : PM) (y : List UInt8) : List Int := if findI M y < 0 then [] else allOf (M.stOf (findI M y).toNat) fun x => x.1 == 3

set_option maxHeartbeats 1000000 in
theorem holders_any (L : PL) (M : PM) (y : List UInt8) (hy : y.length = 32) (w : World) (h : PAt w L M) :
    Calls Tryd.prog 14 #[.pointer (some ⟨L.pb, 0, none⟩), .agg (cellsOf y).toArray] w fun e w' => ∃ v, e = .returned v ∧ w'.ownsRow w.heap.size 3 1 v (holdersOf M y).length ((holdersOf M y).map (Value.int .i64)) ∧ Below w.heap.size w w' := by
  obtain ⟨ao, cap, hlv, hao⟩ := row_shape h.lv
  have c2 := h.cells.2.2
  rw [hlv] at c2
  have hpb := h.lt
  obtain ⟨f0, f1, f2⟩ := findI_range M y
  have HX : Hid ((Tryd.prog.info? 30).map (·.size) = some (cellsOf y).toArray.size) := by show _ = _; rw [Tryd.sizeId]; simp [hy]
  have hlen := h.len
  have hfind := fun w (h : PAt w L M) => find_any L M y hy w h
  have H := Lib.hid h
  by_cases hneg : findI M y < 0
  · have HH : Hid (holdersOf M y = []) := by unfold holdersOf; rw [if_pos hneg]; rfl
    clear h hlv hao f2
    generalize findI M y = fi at *
    go_enter Tryd.func14, Tryd.ntmps14
    go_wp2_with (first
      | ((refine wpList_load_row rfl 30 _ rfl w.heap.size ?_ 30 (cellsOf y).toArray (0, 0) _ ?_ Tryd.undId rfl HX.out ?_); (rfl); (exact heap_alloc_new _ _))
      | (go_at_call 18; refine (hfind _ (by exact H.out.below ((Below.refl _ _).alloc (Nat.le_refl _) _))).mono ?_; rintro e w1 ⟨rfl, hb⟩))
    go_ret
    exact ⟨_, rfl, by rw [HH.out]; exact World.ownsRow_nil _ _ _ _, ((Below.refl _ _).alloc (Nat.le_refl _) _).trans (hb.mono (by simp))⟩
  · obtain ⟨x, hx1, hx2⟩ := f2 (by omega)
    have HH : Hid (holdersOf M y = allOf x.st fun x => x.1 == 3) := by unfold holdersOf; rw [if_neg hneg, stOf_at hx1]; rfl
    obtain ⟨i, hi⟩ : ∃ i : Nat, findI M y = i := ⟨(findI M y).toNat, by omega⟩
    rw [hi] at f0 f1 hneg hx1 hfind
    have hil : i < L.ws.length := by omega
    obtain ⟨g, rfl, hg1, hg2⟩ := hao (by omega)
    obtain ⟨l, x2, h1, h2, hwx⟩ := h.at_ hil
    have ex : x2 = x := by simp only [Int.toNat_natCast] at hx1; rw [hx1] at h2; exact (Option.some.inj h2).symm
    subst ex
    have hr := h.lv
    rw [hlv] at hr
    have hptr := ptr_cell hr i l h1
    have HW := Lib.hid hwx
    clear h hlv hao f2 hx1 hx2 hi h1 h2 hr hwx
    go_enter Tryd.func14, Tryd.ntmps14
    go_wp2_with (first
      | ((refine wpList_load_row rfl 30 _ rfl w.heap.size ?_ 30 (cellsOf y).toArray (0, 0) _ ?_ Tryd.undId rfl HX.out ?_); (rfl); (exact heap_alloc_new _ _))
      | (go_at_call 18; refine (hfind _ (by exact H.out.below ((Below.refl _ _).alloc (Nat.le_refl _) _))).mono ?_; rintro e w1 ⟨rfl, hb⟩; have HB := Lib.hid (((Below.refl _ w).alloc (Nat.le_refl _) _).trans (hb.mono (by simp))); clear hb; obtain ⟨hbc, _⟩ := bcell HB.out)
      | (go_at_call 20; refine (all_holder l.wb l.mb x2.st _ (by exact (HW.out.below HB.out).mapCell) (by exact (HW.out.below HB.out).lt) (by exact (HW.out.below HB.out).map)).mono ?_; rintro e w2 ⟨v, rfl, hrow, hb2⟩))
    go_ret
    exact ⟨v, rfl, by rw [HH.out]; exact row_base hrow HB.out.size, HB.out.trans (hb2.mono HB.out.size)⟩
end Go.Proofs.YtpogpfabnkgkfaaDoor
