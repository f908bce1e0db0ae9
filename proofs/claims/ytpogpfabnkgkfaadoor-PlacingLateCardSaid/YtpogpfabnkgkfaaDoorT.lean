/- Placer.Want of something new, walked: once packs.Id is reckoned. -/
import Derived.Test.YtpogpfabnkgkfaaDoorS
namespace Go.Proofs.YtpogpfabnkgkfaaDoor
open Go.RowKit Go.BigFrame Go.Maps Go.Shelf Go.Sort
set_option maxRecDepth 100000

theorem want_new_aux (w0 : World) (B0 B1 : Nat) (y : List UInt8) (L : PL) (M : PM) (v : Value) (b : List UInt8) (w w1 : World) (h : KeepW w0 B0 B1 y L M v b w) (hb : Below w.heap.size w w1) :
    Hid (KeepW w0 B0 B1 y L M v b w1) ∧ w1.rangeAt B1 0 (cellsOf y) ∧ w1.cell? ⟨L.pb, 2, none⟩ = some L.lv := by
  have k := h.step hb
  exact ⟨k, k.range, k.2.2.1.cells.2.2⟩

set_option maxHeartbeats 4000000 in
theorem want_new (G : World → Prop) (f : List UInt8 → List UInt8) (hf : IdSays G f) (L : PL) (M : PM) (bb o cap : Nat) (b : List UInt8) (hb0 : 1 ≤ b.length) (hb1 : b.length ≤ 1048576) (w : World) (hG : G w) (h : PAt w L M)
    (hs : ∀ j u, (cellsOf b)[j]? = some u → w.cell? ⟨bb, o + j, none⟩ = some u) (hbb : bb < w.heap.size) (hcap : b.length ≤ cap) (hnew : findI M (f b) < 0) (hmany : L.ws.length < 1000) :
    Calls Tryd.prog 6 #[.pointer (some ⟨L.pb, 0, none⟩), .slice (some ⟨bb, o, none⟩) b.length cap] w fun e w' => ∃ L' : PL, e = .returned (.tuple #[.agg (cellsOf (f b)).toArray, .int .i64 0]) ∧
      PAt w' L' ⟨M.k, M.ps, M.ws ++ [⟨f b, b, fun _ => (0, 0)⟩]⟩ ∧ L'.pb = L.pb ∧ (∀ B, Since B L → B ≤ w.heap.size → Since B L') ∧ Only (fun i => i = L.pb ∨ L.lv.ownBlock = some i) w w' := by
  have d1 : decide ((b.length : Int) < 1) = false := decide_eq_false (by omega)
  have d2 : decide ((1048576 : Int) < (b.length : Int)) = false := decide_eq_false (by omega)
  have HY : Hid ((f b).length = 32) := hf.1 b
  have hfn : findI M (f b) = -1 := by have := (findI_range M (f b)).1; omega
  have HF := Lib.hid (fun w' (h : PAt w' L M) => find_any L M (f b) HY.out w' h)
  rw [hfn] at HF
  have HCL : Hid ((cellsOf b).length = b.length) := by show _ = _; simp
  have HID := Lib.hid (hf.2.2 (.slice (some ⟨bb, o, none⟩) b.length cap) b (w.alloc (.cells zeroId.toArray 30)) (hf.2.1 _ _ hG ((Below.refl _ _).alloc (Nat.le_refl _) _)) (Or.inr ⟨bb, o, cap, by rw [HCL.out], by simp; omega, by rw [HCL.out]; exact hcap, fun j u hj => by rw [World.cell?_alloc_past _ _ _ hbb]; exact hs j u hj⟩) hb0 hb1)
  have HK0 : Hid (∀ w1, Below (w.alloc (.cells zeroId.toArray 30)).heap.size (w.alloc (.cells zeroId.toArray 30)) w1 → KeepW w w.heap.size w1.heap.size (f b) L M (.slice (some ⟨bb, o, none⟩) b.length cap) b (w1.alloc (.cells (cellsOf (f b)).toArray 30))) := fun w1 hb => by
    have h2 : Below w.heap.size w w1 := ((Below.refl _ _).alloc (Nat.le_refl _) _).trans (hb.mono (by simp))
    have h3 : Below w1.heap.size w1 (w1.alloc (.cells (cellsOf (f b)).toArray 30)) := (Below.refl _ _).alloc (Nat.le_refl _) _
    refine ⟨below_block h3 (below_block hb (heap_alloc_new _ _)), heap_alloc_new _ _, (h.below h2).below h3, ?_, h2.trans (h3.mono h2.size)⟩
    exact ((SliceAt.below (w := w) (Or.inr ⟨bb, o, cap, by rw [HCL.out], hbb, by rw [HCL.out]; exact hcap, hs⟩) h2).below h3)
  have HX : Hid ((Tryd.prog.info? 30).map (·.size) = some (cellsOf (f b)).toArray.size) := by show _ = _; rw [Tryd.sizeId]; simp [HY.out]
  have HXL : Hid ((Tryd.prog.info? 30).map (·.size) = some (cellsOf (f b)).length) := by show _ = _; rw [Tryd.sizeId]; simp [HY.out]
  have HZ : Hid (zeroId.toArray.size = (cellsOf (f b)).toArray.size) := by show _ = _; simp [HY.out, zeroId]
  have HO : Hid (((cellsOf (f b)).toArray).all (·.oneCell') = true) := by
    show _ = _
    simp only [List.all_toArray, List.all_eq_true]
    exact oneCell_cellsOf (f b)
  have HOB : Hid (∀ u ∈ cellsOf b, u.oneCell' = true) := oneCell_cellsOf b
  clear hs hnew hfn h hG
  generalize hy : f b = y at *
  clear hy
  go_enter Tryd.func6, Tryd.ntmps6
  go_wp2_with (first
    | (go_at_call 17; refine HID.out.mono ?_; rintro e w1 ⟨rfl, hb⟩; have HK1 := Lib.hid (HK0.out _ hb); clear hb)
    | ((with_reducible refine wpList_store_rowTo rfl 30 _ _ rfl rfl w1.heap.size (cellsOf y).toArray ?_ ?_ 30 zeroId.toArray ?_ HX.out HZ.out HO.out ?_); (rfl); (rfl); (exact heap_alloc_new _ _); (show wpList _ _ _ _ _ (World.setRow (w1.alloc (.cells zeroId.toArray 30)) w1.heap.size (cellsOf y).toArray)); (rw [setRow_alloc]))
    | ((refine wpList_load_row rfl 30 _ rfl w1.heap.size ?_ 30 (cellsOf y).toArray (0, 0) _ ?_ Tryd.undId rfl HX.out ?_); (rfl); (exact HK1.out.2.1))
    | (go_at_call 18; refine (HF.out _ (by exact HK1.out.2.2.1)).mono ?_; rintro e w2 ⟨rfl, hb⟩; have HK2 := Lib.hid (HK1.out.step hb); clear hb))
  have HB1 : Hid (Below w2.heap.size w2 w2.drew) := (Below.refl _ _).drew
  obtain ⟨HK3, hS0, hS1⟩ := want_new_aux _ _ _ _ _ _ _ _ _ _ HK2.out HB1.out
  have HSL := fun (w' : World) (h : Asks (fun w' => w'.rangeAt w1.heap.size 0 (cellsOf y)) (fun w' => w'.cell? ⟨L.pb, 2, none⟩ = some L.lv) false w') => h.1
  have HSZ := HXL.out
  refine wpX_begin (fun w' => w'.rangeAt w1.heap.size 0 (cellsOf y)) (fun w' => w'.cell? ⟨L.pb, 2, none⟩ = some L.lv) (fun e => [12, 15].contains e) (by kernel_rfl) ?_
  refine wpX_take (i := 0) (v := ?_) false (by simp only [List.getElem?_toArray, List.getElem?_cons_succ, List.getElem?_cons_zero]; rfl) (by kernel_rfl) (by kernel_rfl) (by kernel_rfl) (by kernel_rfl) (fun e => by cases e) (by exact fun _ _ _ h => h) (Or.inl ⟨by rfl, ?_⟩) ⟨by assumption, fun e => by cases e⟩ ?_
  rotate_left 1
  · (intro w hSw; obtain ⟨hs0, hs1⟩ := hSw; (try have hs1 := hs1 rfl); (try dsimp only at hs0 hs1); go_simp; try with_reducible rfl)
  try simp only [Act.put, List.setIfInBounds_toArray, List.set_cons_zero, List.set_cons_succ]
  refine wpX_take (i := 1) (v := ?_) false (by simp only [List.getElem?_toArray, List.getElem?_cons_succ, List.getElem?_cons_zero]; rfl) (by kernel_rfl) (by kernel_rfl) (by kernel_rfl) (by kernel_rfl) (fun e => by cases e) (by exact fun _ _ _ h => h) (Or.inl ⟨by rfl, ?_⟩) ⟨by assumption, fun e => by cases e⟩ ?_
  rotate_left 1
  · (intro w hSw; obtain ⟨hs0, hs1⟩ := hSw; (try have hs1 := hs1 rfl); (try dsimp only at hs0 hs1); go_simp; try with_reducible rfl)
  try simp only [Act.put, List.setIfInBounds_toArray, List.set_cons_zero, List.set_cons_succ]
  refine wpX_take (i := 2) (v := ?_) false (by simp only [List.getElem?_toArray, List.getElem?_cons_succ, List.getElem?_cons_zero]; rfl) (by kernel_rfl) (by kernel_rfl) (by kernel_rfl) (by kernel_rfl) (fun e => by cases e) (by exact fun _ _ _ h => h) (Or.inl ⟨by rfl, ?_⟩) ⟨by assumption, fun e => by cases e⟩ ?_
  rotate_left 1
  · (intro w hSw; obtain ⟨hs0, hs1⟩ := hSw; (try have hs1 := hs1 rfl); (try dsimp only at hs0 hs1); go_simp; try with_reducible rfl)
  try simp only [Act.put, List.setIfInBounds_toArray, List.set_cons_zero, List.set_cons_succ]
  refine wpX_take (i := 3) (v := ?_) false (by simp only [List.getElem?_toArray, List.getElem?_cons_succ, List.getElem?_cons_zero]; rfl) (by kernel_rfl) (by kernel_rfl) (by kernel_rfl) (by kernel_rfl) (fun e => by cases e) (by exact fun _ _ _ h => h) (Or.inl ⟨by rfl, ?_⟩) ⟨by assumption, fun e => by cases e⟩ ?_
  rotate_left 1
  · (intro w hSw; obtain ⟨hs0, hs1⟩ := hSw; (try have hs1 := hs1 rfl); (try dsimp only at hs0 hs1); go_simp; try with_reducible rfl)
  try simp only [Act.put, List.setIfInBounds_toArray, List.set_cons_zero, List.set_cons_succ]
  refine wpX_take (i := 4) (v := ?_) true (by simp only [List.getElem?_toArray, List.getElem?_cons_succ, List.getElem?_cons_zero]; rfl) (by kernel_rfl) (by kernel_rfl) (by kernel_rfl) (by kernel_rfl) (fun _ => exNot_of _ _ (by kernel_rfl)) (by exact fun _ _ _ h => h) (Or.inl ⟨by rfl, ?_⟩) ⟨by assumption, fun _ => by assumption⟩ ?_
  rotate_left 1
  · (intro w hSw; obtain ⟨hs0, hs1⟩ := hSw; (try have hs1 := hs1 rfl); (try dsimp only at hs0 hs1); go_simp; try with_reducible rfl)
  try simp only [Act.put, List.setIfInBounds_toArray, List.set_cons_zero, List.set_cons_succ]
  refine wpX_take (i := 5) (v := _) false (by simp only [List.getElem?_toArray, List.getElem?_cons_succ, List.getElem?_cons_zero]; rfl) (by kernel_rfl) (by kernel_rfl) (by kernel_rfl) (by kernel_rfl) (fun e => by cases e) (by exact fun _ _ _ h => h) (yieldsIf_load_mid (by rfl) _ _ rfl _ _ rfl _ _ HSL Tryd.undId rfl HSZ) ⟨by assumption, fun e => by cases e⟩ ?_
  try simp only [Act.put, List.setIfInBounds_toArray, List.set_cons_zero, List.set_cons_succ]
  refine wpX_take (i := 6) (v := ?_) false (by simp only [List.getElem?_toArray, List.getElem?_cons_succ, List.getElem?_cons_zero]; rfl) (by kernel_rfl) (by kernel_rfl) (by kernel_rfl) (by kernel_rfl) (fun e => by cases e) (by exact fun _ _ _ h => h) (Or.inl ⟨by rfl, ?_⟩) ⟨by assumption, fun e => by cases e⟩ ?_
  rotate_left 1
  · (intro w hSw; obtain ⟨hs0, hs1⟩ := hSw; (try have hs1 := hs1 rfl); (try dsimp only at hs0 hs1); go_simp; try with_reducible rfl)
  try simp only [Act.put, List.setIfInBounds_toArray, List.set_cons_zero, List.set_cons_succ]
  have HK3' : Hid (Below w.heap.size w w2.drew ∧ w2.heap.size ≤ w2.drew.heap.size) := ⟨HK3.out.2.2.2.2, Nat.le_refl _⟩
  generalize w2.drew = w3 at *
  clear HB1
  have HCB : Hid (bb < w3.heap.size ∧ ∀ j u, (cellsOf b)[j]? = some u → w3.cell? ⟨bb, o + j, none⟩ = some u) := by
    obtain ⟨_, _, _, hsl, _⟩ := HK3.out
    rcases hsl with ⟨e, _⟩ | ⟨b2, o2, c2, e, hlt, hc⟩
    · cases e
    · injection e with e1 _ _
      injection e1 with e1
      injection e1 with e2 e3 _
      subst e2; subst e3
      exact ⟨hlt, hc.2⟩
  refine wpX_ready (rs := [7, 8]) (by kernel_rfl) (by simp) ?_
  refine AllX.cons (by simp only [List.getElem?_toArray, List.getElem?_cons_succ, List.getElem?_cons_zero]; rfl) (fun K hK => ?_) (AllX.cons (by simp only [List.getElem?_toArray, List.getElem?_cons_succ, List.getElem?_cons_zero]; rfl) (fun K hK => ?_) AllX.nil)
  go_simp
  rw [← HCL.out]
  refine (cloneb_any bb o cap (cellsOf b) _ HOB.out (by rw [HCL.out]; omega) HCB.out.2 HCB.out.1).mono ?_
  rintro e w4 ⟨v4, rfl, hrow4, hb4, _⟩
  rw [HCL.out] at *
  obtain ⟨a4, c4, rfl, _⟩ := row_shape hrow4
  have HRW := Lib.hid hrow4
  obtain ⟨HK4, hS04, hS14⟩ := want_new_aux _ _ _ _ _ _ _ _ _ _ HK3.out hb4
  have HB4 := Lib.hid hb4
  clear hrow4 hb4
  go_wp2
  refine hK.out _ _ hS04 (fun _ _ => hS14) ?_
  clear hK K
  try simp only [Act.put, List.setIfInBounds_toArray, List.set_cons_zero, List.set_cons_succ]
  refine wpX_ready (rs := [8]) (by kernel_rfl) (by simp) ?_
  refine AllX.cons (by simp only [List.getElem?_toArray, List.getElem?_cons_succ, List.getElem?_cons_zero]; rfl) (fun K hK => ?_) AllX.nil
  go_simp
  rw [run_makeMap]
  go_wp2
  have hb5 : Below w4.heap.size w4 (w4.alloc (.map #[] 0)) := (Below.refl _ _).alloc (Nat.le_refl _) _
  obtain ⟨HKz, hS0z, hS1z⟩ := want_new_aux _ _ _ _ _ _ _ _ _ _ HK4.out hb5
  have HR : Hid ((w4.alloc (.map #[] 0)).ownsRow 0 5 1 (.slice a4 b.length c4) b.length (cellsOf b)) := row_base (row_below HRW.out hb5) (Nat.zero_le _)
  have HM : Hid (MapSt (w4.alloc (.map #[] 0)) w4.heap.size (fun _ => (0, 0))) := MapSt.made w4
  have HMB : Hid (w3.heap.size ≤ w4.heap.size) := HB4.out.size
  refine hK.out _ _ hS0z (fun _ _ => hS1z) ?_
  clear hK K hb5 HRW HB4 HK4 hS04 hS14
  generalize w4.alloc (.map #[] 0) = wz at *
  generalize w4.heap.size = mb at *
  try simp only [Act.put, List.setIfInBounds_toArray, List.set_cons_zero, List.set_cons_succ]
  rotate_left 1
  go_simp
  rw [run_makeMap]
  go_wp2
  have hb4 : Below w3.heap.size w3 (w3.alloc (.map #[] 0)) := (Below.refl _ _).alloc (Nat.le_refl _) _
  obtain ⟨HK4, hS04, hS14⟩ := want_new_aux _ _ _ _ _ _ _ _ _ _ HK3.out hb4
  refine hK.out _ _ hS04 (fun _ _ => hS14) ?_
  clear hK K
  try simp only [Act.put, List.setIfInBounds_toArray, List.set_cons_zero, List.set_cons_succ]
  refine wpX_ready (rs := [7]) (by kernel_rfl) (by simp) ?_
  refine AllX.cons (by simp only [List.getElem?_toArray, List.getElem?_cons_succ, List.getElem?_cons_zero]; rfl) (fun K hK => ?_) AllX.nil
  go_simp
  rw [← HCL.out]
  refine (cloneb_any bb o cap (cellsOf b) _ HOB.out (by rw [HCL.out]; omega) (fun j u hj => by rw [World.cell?_alloc_past _ _ _ HCB.out.1]; exact HCB.out.2 j u hj) (by simp; have := HCB.out.1; omega)).mono ?_
  rintro e wz ⟨v4, rfl, hrow4, hb5, _⟩
  rw [HCL.out] at *
  obtain ⟨a4, c4, rfl, _⟩ := row_shape hrow4
  have HR : Hid (wz.ownsRow 0 5 1 (.slice a4 b.length c4) b.length (cellsOf b)) := row_base hrow4 (Nat.zero_le _)
  obtain ⟨HKz, hS0z, hS1z⟩ := want_new_aux _ _ _ _ _ _ _ _ _ _ HK4.out hb5
  have HM : Hid (MapSt wz w3.heap.size (fun _ => (0, 0))) := by
    refine (MapSt.made w3).kept (Only.of_below (F := fun _ => False) hb5) (fun h => h)
  go_wp2
  refine hK.out _ _ hS0z (fun _ _ => hS1z) ?_
  clear hK K hb5 hb4 hrow4 HK4 hS04 hS14
  generalize hmb : w3.heap.size = mb at HM ⊢
  have HMB : Hid (w3.heap.size ≤ mb) := by rw [hmb]; exact Nat.le_refl _
  clear hmb
  try simp only [Act.put, List.setIfInBounds_toArray, List.set_cons_zero, List.set_cons_succ]
  all_goals (
    have HBW := Lib.hid (builtWanted3 y HY.out a4 b.length c4 mb)
    refine wpX_take (i := 9) (v := _) false (by simp only [List.getElem?_toArray, List.getElem?_cons_succ, List.getElem?_cons_zero]; rfl) (by kernel_rfl) (by kernel_rfl) (by kernel_rfl) (by kernel_rfl) (fun e => by cases e) (by exact fun _ _ _ h => h) (yields_build (by rfl) 58 _ rfl _ (by simp only [List.map_toArray, List.map_cons, List.map_nil]; exact HBW.out)) ⟨by assumption, fun e => by cases e⟩ ?_
    try simp only [Act.put, List.setIfInBounds_toArray, List.set_cons_zero, List.set_cons_succ]
    refine wpX_ready (rs := [10]) (by kernel_rfl) (by simp) ?_
    refine AllX.cons (by simp only [List.getElem?_toArray, List.getElem?_cons_succ, List.getElem?_cons_zero]; rfl) (fun K hK => ?_) AllX.nil
    go_simp
    have hb6 : Below wz.heap.size wz (wz.alloc (.cells (wantedCells y (.slice a4 b.length c4) mb).toArray 58)) := (Below.refl _ _).alloc (Nat.le_refl _) _
    obtain ⟨HK6, hS06, hS16⟩ := want_new_aux _ _ _ _ _ _ _ _ _ _ HKz.out hb6
    have HXW : Hid (WAt (wz.alloc (.cells (wantedCells y (.slice a4 b.length c4) mb).toArray 58)) ⟨wz.heap.size, .slice a4 b.length c4, mb⟩ ⟨y, b, fun _ => (0, 0)⟩) :=
      ⟨heap_alloc_new _ _, HY.out, row_below HR.out hb6, ⟨hb0, hb1⟩, HM.out.below hb6⟩
    refine hK.out _ _ hS06 (fun _ _ => hS16) ?_
    clear hK K hb6 HKz hS0z hS1z
    generalize wz.alloc (.cells (wantedCells y (.slice a4 b.length c4) mb).toArray 58) = w6 at *
    generalize wz.heap.size = wb at *
    try simp only [Act.put, List.setIfInBounds_toArray, List.set_cons_zero, List.set_cons_succ]
    refine wpX_ready (rs := [11]) (by kernel_rfl) (by simp) ?_
    refine AllX.cons (by simp only [List.getElem?_toArray, List.getElem?_cons_succ, List.getElem?_cons_zero]; rfl) (fun K hK => ?_) AllX.nil
    go_simp
    have hb7 : Below w6.heap.size w6 (w6.alloc (.cells #[.pointer (some ⟨wb, 0, none⟩)] 54)) := (Below.refl _ _).alloc (Nat.le_refl _) _
    obtain ⟨HK7, hS07, hS17⟩ := want_new_aux _ _ _ _ _ _ _ _ _ _ HK6.out hb7
    have HXW7 := Lib.hid (HXW.out.below hb7)
    have HNW : Hid (∀ j u, [Value.pointer (some ⟨wb, 0, none⟩)][j]? = some u → (w6.alloc (.cells #[.pointer (some ⟨wb, 0, none⟩)] 54)).cell? ((⟨w6.heap.size, 0, none⟩ : Addr).add j) = some u) := fun j u hj => by
      rw [Addr.add_mid, Nat.zero_add, cell_of_row _ _ _ _ _ _ (heap_alloc_new _ _)]
      simpa using hj
    refine hK.out _ _ hS07 (fun _ _ => hS17) ?_
    clear hK K hb7 HXW HK6 hS06 hS16
    generalize w6.alloc (.cells #[.pointer (some ⟨wb, 0, none⟩)] 54) = w7 at *
    generalize w6.heap.size = sb at *
    try simp only [Act.put, List.setIfInBounds_toArray, List.set_cons_zero, List.set_cons_succ]
    obtain ⟨i1, hi1, hz10, hz11, hz12⟩ := info_parts Tryd.infoPWanted
    refine wpX_ready (rs := [12]) (by kernel_rfl) (by simp) ?_
    refine AllX.cons (by simp only [List.getElem?_toArray, List.getElem?_cons_succ, List.getElem?_cons_zero]; rfl) (fun K hK => ?_) AllX.nil
    refine step_append_lies _ (by rfl) _ _ _ (by rfl) 0 54 i1 _ 1 8 Tryd.underlying49 hi1 hz10 hz11 hz12 rfl (by decide) L.lv L.ws.length _ (by rfl) HK7.out.2.2.1.lv ⟨sb, 0, none⟩ 1 1 [.pointer (some ⟨wb, 0, none⟩)] (by rfl) rfl HNW.out (by intro u hu; rw [List.mem_singleton] at hu; subst hu; rfl) (by decide) (by unfold maxLen; omega) (by omega) (Nat.zero_le _) _ rfl ?_
    intro g8 cap8 w8 hown hgrow hat8 _
    have HAT : Hid (L.lv.ownBlock = some g8 ∨ w.heap.size ≤ g8) := by
      rcases hat8 with e | e
      · exact Or.inl e
      · exact Or.inr (by rw [e]; exact HK7.out.2.2.2.2.size)
    clear hat8
    obtain ⟨hB0, hB1, hPB⟩ := HK7.out.added hgrow
    refine hK.out _ _ (fun j v hj => by rw [Nat.zero_add, cell_of_row _ _ _ _ _ _ hB1]; simpa using hj) (fun e => absurd e (by decide)) ?_
    have HPA := Lib.hid (HK7.out.2.2.1.add (l := ⟨wb, .slice a4 b.length c4, mb⟩) (x := ⟨y, b, fun _ => (0, 0)⟩) HXW7.out (fun l' hl' e => by
      obtain ⟨i, hi, he⟩ := List.getElem_of_mem hl'
      obtain ⟨l2, x2, h1, h2, h3⟩ := HK3.out.2.2.1.at_ hi
      have e2 : l2 = l' := by rw [List.getElem?_eq_getElem hi, he] at h1; exact (Option.some.inj h1).symm
      subst e2
      have := h3.map.lt
      have h5 := HMB.out
      simp only at e
      omega) (by omega) hown hgrow)
    have HON : Hid (Only (fun j => L.lv.ownBlock = some j) w7 w8) := Only.of_grown hgrow (fun k e => e)
    have HB08 := Lib.hid hB0
    have HB18 := Lib.hid hB1
    have HPB8 := Lib.hid hPB
    have hc8 : w8.cell? ⟨L.pb, 2, none⟩ = some L.lv := by rw [cell_of_row _ _ _ _ _ _ hPB]; rfl
    have hz8 : w8.frozen? ⟨L.pb, 2, none⟩ = false := frozen_of_row _ _ _ _ _ hPB
    have hS08 : w8.rangeAt w1.heap.size 0 (cellsOf y) := fun j v hj => by rw [Nat.zero_add, cell_of_row _ _ _ _ _ _ hB1]; simpa using hj
    clear hK K hown hgrow hB0 hB1 hPB
    try simp only [Act.put, List.setIfInBounds_toArray, List.set_cons_zero, List.set_cons_succ]
    refine wpX_take (i := 13) (v := ?_) false (by simp only [List.getElem?_toArray, List.getElem?_cons_succ, List.getElem?_cons_zero]; rfl) (by kernel_rfl) (by kernel_rfl) (by kernel_rfl) (by kernel_rfl) (fun e => by cases e) (by exact fun _ _ _ h => h) (Or.inl ⟨by rfl, ?_⟩) ⟨by assumption, fun e => by cases e⟩ ?_
    rotate_left 1
    · (intro w hSw; obtain ⟨hs0, hs1⟩ := hSw; (try have hs1 := hs1 rfl); (try dsimp only at hs0 hs1); go_simp; try with_reducible rfl)
    try simp only [Act.put, List.setIfInBounds_toArray, List.set_cons_zero, List.set_cons_succ]
    refine wpX_take (i := 14) (v := ?_) false (by simp only [List.getElem?_toArray, List.getElem?_cons_succ, List.getElem?_cons_zero]; rfl) (by kernel_rfl) (by kernel_rfl) (by kernel_rfl) (by kernel_rfl) (fun e => by cases e) (by exact fun _ _ _ h => h) (Or.inl ⟨by rfl, ?_⟩) ⟨by assumption, fun e => by cases e⟩ ?_
    rotate_left 1
    · (intro w hSw; obtain ⟨hs0, hs1⟩ := hSw; (try have hs1 := hs1 rfl); (try dsimp only at hs0 hs1); go_simp; try with_reducible rfl)
    try simp only [Act.put, List.setIfInBounds_toArray, List.set_cons_zero, List.set_cons_succ]
    have hB1' : w8.heap[w1.heap.size]? = some (.cells (cellsOf y).toArray 30 (0, 0)) := HB18.out
    have HNE := Lib.hid (And.intro (ne_block HB18.out HPB8.out (by decide)) (ne_block HB08.out HPB8.out (by decide)))
    refine wpX_ready (rs := [15]) (by kernel_rfl) (by simp) ?_
    refine AllX.cons (by simp only [List.getElem?_toArray, List.getElem?_cons_succ, List.getElem?_cons_zero]; rfl) (fun K hK => ?_) AllX.nil
    go_simp
    have HB19 : Hid ((w8.setCell ⟨L.pb, 2, none⟩ (.slice (some ⟨g8, 0, none⟩) (L.ws.length + 1) cap8)).heap[w1.heap.size]? = some (.cells (cellsOf y).toArray 30 (0, 0))) := by
      show _ = _
      rw [Below.heap_setCell _ _ _ _ HNE.out.1]; exact HB18.out
    have HB09 : Hid ((w8.setCell ⟨L.pb, 2, none⟩ (.slice (some ⟨g8, 0, none⟩) (L.ws.length + 1) cap8)).heap[w.heap.size]? = some (.cells zeroId.toArray 30 (0, 0))) := by
      show _ = _
      rw [Below.heap_setCell _ _ _ _ HNE.out.2]; exact HB08.out
    have HO9 := Lib.hid (only_setCell w8 ⟨L.pb, 2, none⟩ (.slice (some ⟨g8, 0, none⟩) (L.ws.length + 1) cap8))
    refine hK.out _ _ (fun j v hj => by rw [Nat.zero_add, cell_of_row _ _ _ _ _ _ HB19.out]; simpa using hj) (fun e => absurd e (by decide)) ?_
    clear hK K
    have HON9 : Hid (Only (fun i => i = L.pb ∨ L.lv.ownBlock = some i) w (w8.setCell ⟨L.pb, 2, none⟩ (.slice (some ⟨g8, 0, none⟩) (L.ws.length + 1) cap8))) := by
      have e1 : Only (fun i => i = L.pb ∨ L.lv.ownBlock = some i) w w7 := Only.of_below HK7.out.2.2.2.2
      have e2 : Only (fun i => i = L.pb ∨ L.lv.ownBlock = some i) w7 w8 := HON.out.mono (fun i _ h => Or.inr h)
      have e3 : Only (fun i => i = L.pb ∨ L.lv.ownBlock = some i) w8 (w8.setCell ⟨L.pb, 2, none⟩ (.slice (some ⟨g8, 0, none⟩) (L.ws.length + 1) cap8)) := HO9.out.mono (fun i _ h => Or.inl h)
      exact (e1.trans e2 (fun _ _ h => h)).trans e3 (fun _ _ h => h)
    refine wpX_done (by kernel_rfl) ?_ _
    clear hc8 hz8 hB1' HO9 hS08
    generalize w8.setCell ⟨L.pb, 2, none⟩ (.slice (some ⟨g8, 0, none⟩) (L.ws.length + 1) cap8) = w9 at *
    try simp only [Act.put, List.setIfInBounds_toArray, List.set_cons_zero, List.set_cons_succ]
    go_wp2_with (first
      | ((refine wpList_load_row rfl 30 _ rfl w1.heap.size ?_ 30 (cellsOf y).toArray (0, 0) _ ?_ Tryd.undId rfl HX.out ?_); (rfl); (exact HB19.out))
      | ((with_reducible refine wpList_store_rowTo rfl 30 _ _ rfl rfl w.heap.size (cellsOf y).toArray ?_ ?_ 30 zeroId.toArray ?_ HX.out HZ.out HO.out ?_); (rfl); (rfl); (exact HB09.out)))
    refine bodyPost_ret (results_ct rfl _ _ w.heap.size 30 (cellsOf y).toArray (0, 0) _ rfl (heap_setRow_same _ _ _ _ _ _ HB09.out) Tryd.undId rfl HX.out) rfl ⟨_, rfl, HPA.out.keepT 30 (by decide) (only_setRow _ _ _) (fun j e o ho => by rw [e, HB09.out] at ho; exact ⟨_, _, (Option.some.inj ho).symm⟩), rfl, fun B hS hB => ⟨hS.1, fun g e => by
      cases e
      rcases HAT.out with e | e
      · exact hS.2.1 _ e
      · exact Nat.le_trans hB e, fun l' hl' => by
      rcases List.mem_append.1 hl' with e | e
      · exact hS.2.2 _ e
      · rw [List.mem_singleton] at e
        subst e
        exact Nat.le_trans hB (Nat.le_trans HK3.out.2.2.2.2.size HMB.out)⟩, HON9.out.trans (only_setRow _ _ _) (fun i hi e => absurd hi (by rw [e]; exact Nat.lt_irrefl _))⟩)
end Go.Proofs.YtpogpfabnkgkfaaDoor
