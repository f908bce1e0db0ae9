/- packs.Id, walked: for one byte or more. -/
import Derived.Test.YtpogpfabnkgkfaaDooraS
namespace Go.Proofs.YtpogpfabnkgkfaaDoor
open Go.RowKit Go.BigFrame Go.Maps Go.Shelf Go.Sort
set_option maxRecDepth 100000

set_option maxHeartbeats 1000000 in
theorem id_any (b off cap : Nat) (bs : List UInt8) (h0 : 0 < bs.length) (hreach : bs.length ≤ 1073741824) (hcap : bs.length ≤ cap) (w : World) (hG : GAt w) (hb : b < w.heap.size)
    (hs : ∀ j u, (cellsOf bs)[j]? = some u → w.cell? ⟨b, off + j, none⟩ = some u) :
    Calls Tryd.prog 17 #[.slice (some ⟨b, off, none⟩) bs.length cap] w fun e w' => e = .returned (.agg (cellsOf (rootS bs)).toArray) ∧ Below w.heap.size w w' := by
  have hB0 : Below w.heap.size w (w.alloc (.cells zeroId.toArray 30)) := (Below.refl _ _).alloc (Nat.le_refl _) _
  have HRT := Lib.hid (root_any b off cap bs h0 hreach hcap (w.alloc (.cells zeroId.toArray 30)) (hG.below hB0) (by simp; omega) (fun j u hj => by rw [World.cell?_alloc_past _ _ _ hb]; exact hs j u hj))
  have HB0 := Lib.hid hB0
  have HO0 := Lib.hid (heap_alloc_new w (.cells zeroId.toArray 30))
  have hdl := rootS_len bs
  have HD0 : Hid ((Tryd.prog.info? 30).map (·.size) = some (cellsOf (rootS bs)).toArray.size) := by show _ = _; rw [Tryd.sizeId, List.size_toArray, length_cellsOf, hdl]
  have HD1 : Hid (zeroId.toArray.size = (cellsOf (rootS bs)).toArray.size) := by show _ = _; rw [List.size_toArray, List.size_toArray, length_cellsOf, hdl]; rfl
  have HD2 : Hid (((cellsOf (rootS bs)).toArray).all (·.oneCell') = true) := cellsOf_one _
  clear hs hB0 hdl
  generalize rootS bs = dg at *
  go_enter Tryd.func17, Tryd.ntmps17
  go_wp2_with (first
    | (go_at_call 34; refine HRT.out.mono ?_; rintro e w1 ⟨rfl, h2⟩; have HO1 := Lib.hid (below_block h2 HO0.out); have HB1 := Lib.hid (HB0.out.trans (h2.mono HB0.out.size)); clear h2)
    | ((with_reducible refine wpList_store_rowTo rfl 30 _ _ rfl rfl w.heap.size (cellsOf dg).toArray ?_ ?_ 30 zeroId.toArray ?_ HD0.out HD1.out HD2.out ?_); (rfl); (rfl); (exact HO1.out)))
  refine bodyPost_ret (results_cell_row rfl _ _ w.heap.size 30 (cellsOf dg).toArray (0, 0) _ rfl (setRow_heap _ _ _ _ _ _ HO1.out) Tryd.undId rfl HD0.out) rfl ⟨rfl, ?_⟩
  exact HB1.out.trans ⟨rfl, rfl, rfl, by simp [World.setRow], fun i hi => setRow_other _ _ i _ (by omega)⟩
/-- packs.Id is reckoned. -/
theorem id_says : IdSays GAt rootS := by
  refine ⟨rootS_len, fun w w' h hb => h.below hb, fun v b w hG hs h1 h2 => ?_⟩
  have hl : (cellsOf b).length = b.length := by simp
  rcases hs with ⟨rfl, e⟩ | ⟨bb, o, cap, rfl, hlt, hcap, hc⟩
  · rw [e] at hl; simp at hl; omega
  · rw [hl]
    exact id_any bb o cap b (by omega) (by omega) (by omega) w hG hlt hc
end Go.Proofs.YtpogpfabnkgkfaaDoor
