/- proof.above, walked: for one id or more. -/
import Derived.Test.YtpogpfabnkgkfaaDooraQ
namespace Go.Proofs.YtpogpfabnkgkfaaDoor
open Go.RowKit Go.BigFrame Go.Maps Go.Shelf Go.Sort
set_option maxRecDepth 100000

attribute [local go_sem] Oper.semAt_some

/-! The row above one. -/
def aboveAt (ids : List (List UInt8)) (i : Nat) : List UInt8 := if 2 * i + 1 < ids.length then digS (pairS (ids.getD (2 * i) []) (ids.getD (2 * i + 1) [])) else ids.getD (2 * i) []
def aboveS (ids : List (List UInt8)) : List (List UInt8) := (List.finRange (partsOf ids.length 2)).map fun i => aboveAt ids i.1
theorem aboveS_len (ids : List (List UInt8)) : (aboveS ids).length = partsOf ids.length 2 := by simp [aboveS]
def All32 (ids : List (List UInt8)) : Prop := ∀ x ∈ ids, x.length = 32
theorem All32.at_ {ids : List (List UInt8)} (h : All32 ids) {i : Nat} (hi : i < ids.length) : (ids.getD i []).length = 32 := by
  rw [List.getD_eq_getElem?_getD, List.getElem?_eq_getElem hi]
  exact h _ (List.getElem_mem hi)
theorem aboveAt_len {ids : List (List UInt8)} (h : All32 ids) (i : Nat) (_ : i < partsOf ids.length 2) : (aboveAt ids i).length = 32 := by
  unfold aboveAt
  split
  · exact digS_len _
  · rename_i hi _; exact h.at_ (by unfold partsOf at hi; omega)
theorem aboveS_32 {ids : List (List UInt8)} (h : All32 ids) : All32 (aboveS ids) := fun x hx => by
  obtain ⟨i, _, rfl⟩ := List.mem_map.1 hx
  exact aboveAt_len h _ i.2
/-- The i-th id of a row. -/
theorem idCells_at {ids : List (List UInt8)} (h : All32 ids) : ∀ (i : Nat) (hi : i < ids.length) (j : Nat) (u : Value), (cellsOf (ids.getD i []))[j]? = some u → (idCells ids)[32 * i + j]? = some u := by
  induction ids with
  | nil => intro i hi; simp at hi
  | cons a ids ih =>
    intro i hi j u hj
    have ha : (cellsOf a).length = 32 := by rw [length_cellsOf]; exact h a (by simp)
    unfold idCells
    rw [List.map_cons, List.flatten_cons]
    cases i with
    | zero =>
      have hjl : j < (cellsOf a).length := by
        rcases Nat.lt_or_ge j (cellsOf a).length with hl | hl
        · exact hl
        · simp only [List.getD_cons_zero] at hj; rw [List.getElem?_eq_none hl] at hj; cases hj
      rw [Nat.mul_zero, Nat.zero_add, List.getElem?_append_left hjl]
      simpa using hj
    | succ i =>
      rw [List.getElem?_append_right (by rw [ha]; omega), ha, show 32 * (i + 1) + j - 32 = 32 * i + j from by omega]
      exact ih (fun x hx => h x (by simp [hx])) i (by simpa using hi) j u (by simpa using hj)
def outOf (ids : List (List UInt8)) (pre : List (Fin (partsOf ids.length 2))) : List (List UInt8) := pre.map fun i => aboveAt ids i.1
theorem outOf_snoc (ids : List (List UInt8)) (pre : List (Fin (partsOf ids.length 2))) (x : Fin (partsOf ids.length 2)) : idCells (outOf ids (pre ++ [x])) = idCells (outOf ids pre) ++ cellsOf (aboveAt ids x.1) := by
  simp [outOf, idCells]
def chunkI (b off len : Nat) (i : Fin (partsOf len 2)) : Value := .slice (some ⟨b, off + 2 * i.1 * 32, none⟩) (lenAt len 2 i.1) (lenAt len 2 i.1)
theorem own_box {W : World} {B : Nat} {t : TypeId} {v : Value} (h : Boxed W B t v) : W.heap[B]? = some (.cells #[v] t (0, 0)) := h

/-- What a round of 'above' keeps. -/
def AbI (w : World) (b off cap : Nat) (ids : List (List UInt8)) (pre : List (Fin (partsOf ids.length 2))) (W : World) : Prop :=
  ((∃ v, Boxed W w.heap.size 36 v ∧ W.ownsRow w.heap.size 30 32 v pre.length (idCells (outOf ids pre)) ∧ True) ∧ Boxed W (w.heap.size + 1) 36 (.slice (some ⟨b, off, none⟩) ids.length cap) ∧ Boxed W (w.heap.size + 1 + 1) 3 (.int .i64 2)) ∧ Below w.heap.size w W
theorem AbI_own (w : World) (b off cap : Nat) (ids : List (List UInt8)) {B : Nat} (hB : w.heap.size ≤ B) : OwnFrom B (AbI w b off cap ids) :=
  OwnFrom.and (OwnFrom.and (Own.from (holdsRow_own w.heap.size w.heap.size 36 30 32 (fun pre : List (Fin (partsOf ids.length 2)) => pre.length) (fun pre => idCells (outOf ids pre)) (fun _ _ => True)) _)
    (OwnFrom.and (Own.from (boxed_own _ _ (fun _ => _)) _) (Own.from (boxed_own _ _ (fun _ => _)) _))) (ownFrom_below (Nat.le_refl _) hB)
theorem keepsFrom_below {B : Nat} {W W' : World} (h : Below W.heap.size W W') : KeepsFrom B W W' :=
  ⟨h.size, fun k _ _ hk _ => (h.block k (Array.getElem?_eq_some_iff.1 hk).1).trans hk⟩
theorem above_end {w W Wc w1 : World} {b off cap : Nat} {ids : List (List UInt8)} {B : Nat} {pre : List (Fin (partsOf ids.length 2))} {x : Fin (partsOf ids.length 2)} {v v' : Value} {tmp : Obj}
    (hv : Boxed W w.heap.size 36 v) (hrow : W.ownsRow w.heap.size 30 32 v pre.length (idCells (outOf ids pre)))
    (hb1 : Boxed W (w.heap.size + 1) 36 (.slice (some ⟨b, off, none⟩) ids.length cap)) (hb2 : Boxed W (w.heap.size + 1 + 1) 3 (.int .i64 2)) (hB : Below w.heap.size w W) (hb : Below W.heap.size W Wc)
    (hown : w1.ownsRow w.heap.size 30 32 v' (pre.length + 1) (idCells (outOf ids pre) ++ cellsOf (aboveAt ids x.1))) (hgrow : (Wc.alloc tmp).grownBy w1 v.ownBlock) :
    Boxed w1 w.heap.size 36 v ∧ KeepsFrom B W (w1.setCell ⟨w.heap.size, 0, none⟩ v') ∧ KeepB (w.heap.size + 1) (w.heap.size + 1 + 1) W (w1.setCell ⟨w.heap.size, 0, none⟩ v') ∧ AbI w b off cap ids (pre ++ [x]) (w1.setCell ⟨w.heap.size, 0, none⟩ v') := by
  have hvc : Boxed Wc w.heap.size 36 v := below_block hb hv
  have hrc := row_below hrow hb
  have hBc := hB.trans (hb.mono hB.size)
  obtain ⟨h1, h2, h3, h4, h5⟩ := hvc.appended (by decide) hrc hBc.size (Nat.le_refl _) hown hgrow
  have k1 : Boxed (w1.setCell ⟨w.heap.size, 0, none⟩ v') (w.heap.size + 1) 36 (.slice (some ⟨b, off, none⟩) ids.length cap) :=
    Boxed.other ((Boxed.alloc (below_block hb hb1) tmp).kept hgrow (Boxed.not_row (below_block hb hb1) (by decide) hrc)) (by omega) _
  have k2 : Boxed (w1.setCell ⟨w.heap.size, 0, none⟩ v') (w.heap.size + 1 + 1) 3 (.int .i64 2) :=
    Boxed.other ((Boxed.alloc (below_block hb hb2) tmp).kept hgrow (Boxed.not_row (below_block hb hb2) (by decide) hrc)) (by omega) _
  refine ⟨h1, (keepsFrom_below hb).trans (h4.from _), ⟨by rw [k1.cell, hb1.cell], by rw [k2.cell, hb2.cell]⟩, ⟨⟨v', h2, ?_, trivial⟩, k1, k2⟩, hBc.trans h5⟩
  rw [outOf_snoc, List.length_append]
  exact h3
structure AbC (W : World) (y : List UInt8) (w' : World) : Prop where
  below : Below W.heap.size W w'
  blk : w'.heap[W.heap.size]? = some (.cells (cellsOf y).toArray 30 (0, 0))
theorem AbC.start (W : World) (y : List UInt8) : AbC W y (W.alloc (.cells (cellsOf y).toArray 30)) := ⟨(Below.refl _ _).alloc (Nat.le_refl _) _, heap_alloc_new _ _⟩
theorem AbC.step {W w1 w2 : World} {y : List UInt8} (h : AbC W y w1) (hb : Below w1.heap.size w1 w2) : AbC W y w2 := ⟨h.below.trans (hb.mono h.below.size), below_block hb h.blk⟩
theorem AbC.put {W w1 : World} {y : List UInt8} (h : AbC W y w1) (y' : List UInt8) : AbC W y' (w1.setRow W.heap.size (cellsOf y').toArray) :=
  ⟨h.below.trans ⟨rfl, rfl, rfl, by simp [World.setRow], fun i hi => setRow_other _ _ i _ (by omega)⟩, setRow_heap _ _ _ _ _ _ h.blk⟩
theorem AbC.range {W w1 : World} {y : List UInt8} (h : AbC W y w1) {b o : Nat} {cs : List Value} (hb : b < W.heap.size) (hr : W.rangeAt b o cs) : w1.rangeAt b o cs := rangeAt_below hr hb h.below

/-- Of over a literal of one row of bytes. -/
theorem of_row (l : List UInt8) (hl : 1 ≤ l.length) (hl2 : l.length ≤ 1099511627776) (w2 : World) (base gb cb : Nat) (hG : GAt w2) (hr : w2.ownsRow base 5 1 (.slice (some ⟨gb, 0, none⟩) l.length cb) l.length (cellsOf l)) :
    Calls Tryd.prog 53 #[.slice (some ⟨w2.heap.size, 0, none⟩) 1 1] (w2.alloc (.cells #[.slice (some ⟨gb, 0, none⟩) l.length cb] 22)) fun e w' => e = .returned (.agg (cellsOf (digS l)).toArray) ∧ Below w2.heap.size w2 w' := by
  obtain ⟨hc, hlt⟩ := row_cells hr (by omega)
  have hb := (Below.refl w2.heap.size w2).alloc (Nat.le_refl _) (.cells #[.slice (some ⟨gb, 0, none⟩) l.length cb] 22)
  refine (of_one w2.heap.size 0 1 gb 0 cb l _ (hG.below hb) hl2 (by rw [cell_of_row _ _ _ _ _ _ (heap_alloc_new _ _)]; rfl) (fun j u hj => by rw [World.cell?_alloc_past _ _ _ hlt]; exact hc j u hj) (by simp) (by simp; omega)).mono ?_
  rintro e w' ⟨rfl, h⟩
  exact ⟨rfl, hb.trans (h.mono (by simp))⟩
set_option maxHeartbeats 4000000 in
theorem above_any (b off cap : Nat) (ids : List (List UInt8)) (h32 : All32 ids) (h0 : 0 < ids.length) (hreach : ids.length ≤ 1073741824) (hcap : ids.length ≤ cap) (w : World) (hG : GAt w) (hb : b < w.heap.size)
    (hs : ∀ j u, (idCells ids)[j]? = some u → w.cell? ⟨b, off + j, none⟩ = some u) :
    Calls Tryd.prog 52 #[.slice (some ⟨b, off, none⟩) ids.length cap] w fun e w' =>
      ∃ v, e = .returned v ∧ w'.ownsRow w.heap.size 30 32 v (partsOf ids.length 2) (idCells (aboveS ids)) ∧ Below w.heap.size w w' := by
  refine (callsIn_wide (n := 4)).1 ?_
  have h1 : 1 ≤ 4 := by omega
  obtain ⟨i0, hi, hz0, hz1, hz2⟩ := info_parts Tryd.infoId
  refine callsIn_of_wp_marks Tryd.func52 rfl trivial ?_ rfl
  simp only [Tryd.ntmps52, List.size_toArray, List.length_cons, List.length_nil, Nat.reduceAdd, Nat.reduceSub, Array.replicate_succ, Array.replicate_zero, List.push_toArray, List.append_toArray, List.nil_append, List.cons_append]
  gi_wp2_with (refine ⟨trivial, ?_⟩; gi_at_call 63; refine (callsIn_wide.2 (chunkI_any _ _ _ _)).mono ?_; rintro e w' ⟨rfl, rfl⟩)
  have bO := Boxed.new w 36 (.slice none 0 0)
  have hB0 : Below w.heap.size w (((w.alloc (.cells #[.slice none 0 0] 36)).alloc (.cells #[.slice (some ⟨b, off, none⟩) ids.length cap] 36)).alloc (.cells #[.int .i64 2] 3)) := (((Below.refl _ w).alloc (Nat.le_refl _) _).alloc (by simp) _).alloc (by simp <;> omega) _
  have c1 : (((w.alloc (.cells #[.slice none 0 0] 36)).alloc (.cells #[.slice (some ⟨b, off, none⟩) ids.length cap] 36)).alloc (.cells #[.int .i64 2] 3)).cell? ⟨w.heap.size + 1, 0, none⟩ = some (.slice (some ⟨b, off, none⟩) ids.length cap) := by
    have e := heap_alloc2_old (w.alloc (.cells #[.slice none 0 0] 36)) (.cells #[.slice (some ⟨b, off, none⟩) ids.length cap] 36) (.cells #[.int .i64 2] 3)
    rw [World.size_alloc] at e
    rw [cell_of_row _ _ _ _ _ _ e]; rfl
  have c2 : (((w.alloc (.cells #[.slice none 0 0] 36)).alloc (.cells #[.slice (some ⟨b, off, none⟩) ids.length cap] 36)).alloc (.cells #[.int .i64 2] 3)).cell? ⟨w.heap.size + 1 + 1, 0, none⟩ = some (.int .i64 2) := by
    have e := heap_alloc2_new (w.alloc (.cells #[.slice none 0 0] 36)) (.cells #[.slice (some ⟨b, off, none⟩) ids.length cap] 36) (.cells #[.int .i64 2] 3)
    rw [World.size_alloc] at e
    rw [cell_of_row _ _ _ _ _ _ e]; rfl
  obtain ⟨W0, hW0⟩ : ∃ W0, ((w.alloc (.cells #[.slice none 0 0] 36)).alloc (.cells #[.slice (some ⟨b, off, none⟩) ids.length cap] 36)).alloc (.cells #[.int .i64 2] 3) = W0 := ⟨_, rfl⟩
  have hz : W0.heap.size = w.heap.size + 1 + 1 + 1 := by rw [← hW0]; simp
  have bO2 : Boxed W0 w.heap.size 36 (.slice none 0 0) := by rw [← hW0]; exact (bO.alloc _).alloc _
  have b1 : Boxed W0 (w.heap.size + 1) 36 (.slice (some ⟨b, off, none⟩) ids.length cap) := by
    have e := heap_alloc2_old (w.alloc (.cells #[.slice none 0 0] 36)) (.cells #[.slice (some ⟨b, off, none⟩) ids.length cap] 36) (.cells #[.int .i64 2] 3)
    rw [World.size_alloc] at e
    rw [← hW0]; exact e
  have b2 : Boxed W0 (w.heap.size + 1 + 1) 3 (.int .i64 2) := by
    have e := heap_alloc2_new (w.alloc (.cells #[.slice none 0 0] 36)) (.cells #[.slice (some ⟨b, off, none⟩) ids.length cap] 36) (.cells #[.int .i64 2] 3)
    rw [World.size_alloc] at e
    rw [← hW0]; exact e
  rw [hW0] at hB0 c1 c2 ⊢
  clear hW0 bO
  refine wpIn_rangeFunc_ownG rfl h1 (gf := 74) (lb := #[.pointer (some ⟨w.heap.size + 1, 0, none⟩), .pointer (some ⟨w.heap.size + 1 + 1, 0, none⟩)]) rfl trivial (enters_of Tryd.func74 (by kernel_rfl) rfl)
    (chunkI_stops 3 (by omega) (w.heap.size + 1) (w.heap.size + 1 + 1) b off ids.length cap (by omega) hcap W0 (by omega) (by omega) c1 c2) KeepB.trans (keepB_b (by omega) (by omega)) (Below.refl _ _) (fun _ => rfl)
    (AbI w b off cap ids)
    (fun _ _ _ => False)
    (AbI_own w b off cap ids (by omega))
    (fun _ _ _ _ _ hs _ _ => hs)
    ⟨⟨⟨_, bO2, World.ownsRow_nil _ _ _ _, trivial⟩, b1, b2⟩, hB0⟩
    (fun x => { tmps := #[.slice (some ⟨b, off, none⟩) ids.length cap, undef, .slice none 0 0, .pointer (some ⟨w.heap.size, 0, none⟩), chunkI b off ids.length x, undef, .slice (some ⟨b, off, none⟩) ids.length cap, .func (.func 74) #[] #[.pointer (some ⟨w.heap.size + 1, 0, none⟩), .pointer (some ⟨w.heap.size + 1 + 1, 0, none⟩)], chunkI b off ids.length x, undef, undef, undef, undef, undef, undef, undef, undef, undef, undef, undef, undef, undef, undef, undef, undef, undef, undef, undef, undef], defers := [] }) ?assign ?body ?done ?stop
  case assign =>
    intro l x W K hK
    have e : encsI b off ids.length x = #[chunkI b off ids.length x] := rfl
    rw [e]
    gi_wp2
    exact hK
  case body =>
    rintro l pre x W ⟨⟨⟨v, hv, hrow, _⟩, hb1, hb2⟩, hB⟩ hlt
    obtain ⟨ao, co, rfl, _⟩ := row_shape hrow
    have hpb : b < W.heap.size := Nat.lt_of_lt_of_le hb hB.size
    have hxm : 2 * x.1 < ids.length := by have := x.2; unfold partsOf at this; omega
    have hr0 : W.rangeAt b (off + 2 * x.1 * 32) (cellsOf (ids.getD (2 * x.1) [])) := fun j u hj => by
      rw [hB.cell (p := ⟨b, off + 2 * x.1 * 32 + j, none⟩) hb, Nat.add_assoc]
      exact hs _ u (by rw [show 2 * x.1 * 32 = 32 * (2 * x.1) from by omega]; exact idCells_at h32 _ hxm j u hj)
    have hl0 := h32.at_ hxm
    have HGW := Lib.hid (hG.below hB)
    have hpl : pre.length < 1073741824 := by have : partsOf ids.length 2 ≤ ids.length := by unfold partsOf; omega
                                             omega
    have HFIN := Lib.hid (fun (Wc w1 : World) (v' : Value) (tmp : Obj) (hbc : Below W.heap.size W Wc) ho hg => above_end (B := w.heap.size + 1 + 1 + 1) (w1 := w1) (v' := v') (tmp := tmp) (x := x) hv hrow hb1 hb2 hB hbc ho hg)
    have hB5 := hB.size
    by_cases hx2 : 2 * x.1 + 1 < ids.length
    · have hce : chunkI b off ids.length x = .slice (some ⟨b, off + 2 * x.1 * 32, none⟩) 2 2 := by
        unfold chunkI lenAt
        rw [show min 2 (ids.length - 2 * x.1) = 2 from by omega]
      rw [hce]
      have hr1 : W.rangeAt b (off + 2 * x.1 * 32 + 32) (cellsOf (ids.getD (2 * x.1 + 1) [])) := fun j u hj => by
        rw [hB.cell (p := ⟨b, off + 2 * x.1 * 32 + 32 + j, none⟩) hb, Nat.add_assoc, Nat.add_assoc]
        exact hs _ u (by rw [show 2 * x.1 * 32 + (32 + j) = 32 * (2 * x.1 + 1) + j from by omega]; exact idCells_at h32 _ hx2 j u hj)
      have hl1 := h32.at_ hx2
      have HAT : Hid (aboveAt ids x.1 = digS (pairS (ids.getD (2 * x.1) []) (ids.getD (2 * x.1 + 1) []))) := by show _ = _; unfold aboveAt; rw [if_pos hx2]
      rw [HAT.out] at HFIN
      generalize ids.getD (2 * x.1) [] = x0 at *
      generalize ids.getD (2 * x.1 + 1) [] = x1 at *
      generalize off + 2 * x.1 * 32 = o1 at *
      clear hce HAT
      have HR0 := Lib.hid hr0
      have HL0 : Hid ((Tryd.prog.info? 30).map (·.size) = some (cellsOf x0).length) := by show _ = _; rw [Tryd.sizeId, length_cellsOf, hl0]
      have HL0' : Hid ((Tryd.prog.info? 30).map (·.size) = some (cellsOf x0).toArray.size) := by show _ = _; rw [Tryd.sizeId, List.size_toArray, length_cellsOf, hl0]
      have HZ0 : Hid (zeroId.toArray.size = (cellsOf x0).toArray.size) := by show _ = _; rw [List.size_toArray, List.size_toArray, length_cellsOf, hl0]; rfl
      have HO0 : Hid (((cellsOf x0).toArray).all (·.oneCell') = true) := cellsOf_one _
      have HC0 := Lib.hid (AbC.start W x0)
      clear hr0
      gi_upto_region 4 with (fail)
      refine wpIn_round_lit (by kernel_rfl) (fun ⟨_, _, h⟩ => h) ?_
      go_wp2_with (first
        | ((refine wpList_load_mid rfl 30 _ rfl b o1 ?_ (cellsOf x0) _ ?_ Tryd.undId rfl HL0.out ?_); (rfl); (exact HR0.out))
        | ((with_reducible refine wpList_store_rowTo rfl 30 _ _ rfl rfl W.heap.size (cellsOf x0).toArray ?_ ?_ 30 zeroId.toArray ?_ HL0'.out HZ0.out HO0.out ?_); (rfl); (rfl); (exact heap_alloc_new _ _); (show wpList _ _ _ _ _ (World.setRow (W.alloc (.cells zeroId.toArray 30)) W.heap.size (cellsOf x0).toArray)); (rw [setRow_alloc])))
      generalize W.alloc (.cells (cellsOf x0).toArray 30) = W1 at *
      have HR1 := Lib.hid hr1
      have HL1 : Hid ((Tryd.prog.info? 30).map (·.size) = some (cellsOf x1).length) := by show _ = _; rw [Tryd.sizeId, length_cellsOf, hl1]
      have HPA := Lib.hid (fun wq => pair_any x0 x1 hl0 hl1 wq)
      have HPL : Hid ((pairS x0 x1).length = 65) := by show _ = _; simp [pairS, hl0, hl1]
      have hdl := digS_len (pairS x0 x1)
      have HSS : Hid (∀ (y : List UInt8) (w' : World), Hid (AbC W y w') → w'.rangeAt b o1 (cellsOf x0) ∧ w'.rangeAt b (o1 + 32) (cellsOf x1)) := fun y w' h => ⟨h.out.range hpb HR0.out, h.out.range hpb HR1.out⟩
      have HSA : Hid (∀ w' : World, (w'.rangeAt b o1 (cellsOf x0) ∧ w'.rangeAt b (o1 + 32) (cellsOf x1)) → w'.rangeAt b o1 (cellsOf x0)) := fun _ h => h.1
      have HSB : Hid (∀ w' : World, (w'.rangeAt b o1 (cellsOf x0) ∧ w'.rangeAt b (o1 + 32) (cellsOf x1)) → w'.rangeAt b (o1 + 32) (cellsOf x1)) := fun _ h => h.2
      clear hr1
      gi_upto_region 6 with (fail)
      refine wpIn_round_held (S := fun w' => w'.rangeAt b o1 (cellsOf x0) ∧ w'.rangeAt b (o1 + 32) (cellsOf x1)) (by kernel_rfl) (fun ⟨_, _, h⟩ => h) (by kernel_rfl) (HSS.out _ _ (Lib.hid (HC0.out.step (Below.refl _ _).drew))) (fun hHeld => ?_)
      refine wpAnyH_take (i := 0) (v := ?_) (by simp only [List.getElem?_toArray, List.getElem?_cons_succ, List.getElem?_cons_zero]; rfl) (by kernel_rfl) (by kernel_rfl) (by kernel_rfl) (by exact fun _ _ _ h => h) (Or.inl ⟨by rfl, ?_⟩) (by assumption) ?_
      rotate_left 1
      · (intro w hSw; (try dsimp only at hSw); go_simp; try with_reducible rfl)
      try simp only [Act.put, List.setIfInBounds_toArray, List.set_cons_zero, List.set_cons_succ]
      refine wpAnyH_take (i := 1) (v := ?_) (by simp only [List.getElem?_toArray, List.getElem?_cons_succ, List.getElem?_cons_zero]; rfl) (by kernel_rfl) (by kernel_rfl) (by kernel_rfl) (by exact fun _ _ _ h => h) (Or.inl ⟨by rfl, ?_⟩) (by assumption) ?_
      rotate_left 1
      · (intro w hSw; (try dsimp only at hSw); go_simp; try with_reducible rfl)
      try simp only [Act.put, List.setIfInBounds_toArray, List.set_cons_zero, List.set_cons_succ]
      refine wpAnyH_take (i := 2) (v := _) (by simp only [List.getElem?_toArray, List.getElem?_cons_succ, List.getElem?_cons_zero]; rfl) (by kernel_rfl) (by kernel_rfl) (by kernel_rfl) (by exact fun _ _ _ h => h) (yieldsIf_load_mid (by rfl) _ _ rfl _ _ rfl _ _ HSA.out Tryd.undId rfl HL0.out) (by assumption) ?_
      try simp only [Act.put, List.setIfInBounds_toArray, List.set_cons_zero, List.set_cons_succ]
      refine wpAnyH_take (i := 3) (v := ?_) (by simp only [List.getElem?_toArray, List.getElem?_cons_succ, List.getElem?_cons_zero]; rfl) (by kernel_rfl) (by kernel_rfl) (by kernel_rfl) (by exact fun _ _ _ h => h) (Or.inl ⟨by rfl, ?_⟩) (by assumption) ?_
      rotate_left 1
      · (intro w hSw; (try dsimp only at hSw); go_simp; try with_reducible rfl)
      try simp only [Act.put, List.setIfInBounds_toArray, List.set_cons_zero, List.set_cons_succ]
      refine wpAnyH_take (i := 4) (v := ?_) (by simp only [List.getElem?_toArray, List.getElem?_cons_succ, List.getElem?_cons_zero]; rfl) (by kernel_rfl) (by kernel_rfl) (by kernel_rfl) (by exact fun _ _ _ h => h) (Or.inl ⟨by rfl, ?_⟩) (by assumption) ?_
      rotate_left 1
      · (intro w hSw; (try dsimp only at hSw); go_simp; try with_reducible rfl)
      try simp only [Act.put, List.setIfInBounds_toArray, List.set_cons_zero, List.set_cons_succ]
      refine wpAnyH_take (i := 5) (v := _) (by simp only [List.getElem?_toArray, List.getElem?_cons_succ, List.getElem?_cons_zero]; rfl) (by kernel_rfl) (by kernel_rfl) (by kernel_rfl) (by exact fun _ _ _ h => h) (yieldsIf_load_mid (by rfl) _ _ rfl _ _ rfl _ _ HSB.out Tryd.undId rfl HL1.out) (by assumption) ?_
      try simp only [Act.put, List.setIfInBounds_toArray, List.set_cons_zero, List.set_cons_succ]
      refine wpAnyH_ready (rs := [6]) (by kernel_rfl) (by simp) ?_
      refine AllReadyH.cons (by simp only [List.getElem?_toArray, List.getElem?_cons_succ, List.getElem?_cons_zero]; rfl) (fun K hK => ?_) AllReadyH.nil
      go_simp
      refine (HPA.out _).mono ?_
      rintro e w2 ⟨vp, rfl, hp1, hp2⟩
      obtain ⟨ap, cp, rfl, hap⟩ := row_shape hp1
      obtain ⟨gp, rfl, _, _⟩ := hap (by rw [HPL.out]; omega)
      have HC2 := Lib.hid ((HC0.out.step (Below.refl _ _).drew).step hp2)
      have HP1 := Lib.hid hp1
      clear hap hp1 hp2
      have HOF := Lib.hid (of_row (pairS x0 x1) (by rw [HPL.out]; omega) (by rw [HPL.out]; omega) w2 _ gp cp (HGW.out.below HC2.out.below) HP1.out)
      generalize (pairS x0 x1).length = lp at *
      generalize digS (pairS x0 x1) = dg at *
      go_wp2
      refine hK.out _ _ (HSS.out _ _ HC2) (fun hHeld => ?_)
      clear hK K
      refine wpAnyH_ready (rs := [7]) (by kernel_rfl) (by simp) ?_
      refine AllReadyH.cons (by simp only [List.getElem?_toArray, List.getElem?_cons_succ, List.getElem?_cons_zero]; rfl) (fun K hK => ?_) AllReadyH.nil
      go_simp
      refine hK.out _ _ (HSS.out _ _ (Lib.hid (HC2.out.step ((Below.refl _ _).alloc (Nat.le_refl _) _)))) (fun hHeld => ?_)
      clear hK K
      refine wpAnyH_ready (rs := [8]) (by kernel_rfl) (by simp) ?_
      refine AllReadyH.cons (by simp only [List.getElem?_toArray, List.getElem?_cons_succ, List.getElem?_cons_zero]; rfl) (fun K hK => ?_) AllReadyH.nil
      go_simp
      refine HOF.out.mono ?_
      rintro e w3 ⟨rfl, hb3⟩
      have HC3 := Lib.hid (HC2.out.step hb3)
      clear hb3
      have HD0 : Hid ((Tryd.prog.info? 30).map (·.size) = some (cellsOf dg).toArray.size) := by show _ = _; rw [Tryd.sizeId, List.size_toArray, length_cellsOf, hdl]
      have HD1 : Hid ((cellsOf x0).toArray.size = (cellsOf dg).toArray.size) := by show _ = _; rw [List.size_toArray, List.size_toArray, length_cellsOf, length_cellsOf, hdl, hl0]
      have HD2 : Hid (((cellsOf dg).toArray).all (·.oneCell') = true) := cellsOf_one _
      go_wp2
      refine hK.out _ _ (HSS.out _ _ HC3) (fun hHeld => ?_)
      clear hK K
      refine wpAnyH_ready (rs := [9]) (by kernel_rfl) (by simp) ?_
      refine AllReadyH.cons (by simp only [List.getElem?_toArray, List.getElem?_cons_succ, List.getElem?_cons_zero]; rfl) (fun K hK => ?_) AllReadyH.nil
      rw [if_pos (by rfl)]
      refine wp_store_row 30 (.tmp 5) (.tmp 23) rfl W.heap.size (cellsOf dg).toArray ?_ ?_ 30 (cellsOf x0).toArray HC3.out.blk HD0.out HD1.out HD2.out ?_
      · rfl
      · rfl
      have HC4 := Lib.hid (HC3.out.put dg)
      refine hK.out _ _ (HSS.out _ _ HC4) (fun hHeld => ?_)
      clear hK K
      refine wpAnyH_done (by kernel_rfl) ?_ _
      try simp only [Act.put, List.setIfInBounds_toArray, List.set_cons_zero, List.set_cons_succ]
      generalize w3.setRow W.heap.size (cellsOf dg).toArray = w4 at *
      have HBV := Lib.hid (builtId dg hdl)
      have HLY : Hid ((Tryd.prog.info? 30).map (·.size) = some (cellsOf dg).toArray.size) := by show _ = _; rw [Tryd.sizeId, List.size_toArray, length_cellsOf, hdl]
      have hvc := (show Boxed w4 w.heap.size 36 (.slice ao pre.length co) from below_block HC4.out.below hv).cell
      have HRC := Lib.hid (row_below hrow HC4.out.below)
      have HI1 := Lib.hid (cells_u8_one dg)
      have HYL : Hid ((cellsOf dg).length = 1 * 32) := by show _ = _; rw [length_cellsOf, hdl]
      have HBC := Lib.hid (hB.trans (HC4.out.below.mono hB.size)).size
      gi_upto_region 7 with (fail)
      refine wpIn_round_lit (by kernel_rfl) (fun ⟨_, _, h⟩ => h) ?_
      go_wp2_with (first
        | ((refine wpList_load_row rfl 30 _ rfl W.heap.size ?_ 30 (cellsOf dg).toArray (0, 0) _ ?_ Tryd.undId rfl HLY.out ?_); (rfl); (exact HC4.out.blk))
        | ((refine Great.wpList_buildSliceTo rfl 36 30 1 _ rfl _ rfl _ rfl Tryd.underlying36 (cellsOf dg).toArray ?_ ?_); (simp only [List.map_toArray, List.map_cons, List.map_nil]; exact HBV.out))
        | (at_builtin; refine wpList_append_own _ rfl (.tmp 24) (.tmp 26) 36 rfl w.heap.size 30 i0 (.agg zeroId.toArray) 32 32 Tryd.underlying36 hi hz0 hz1 hz2 rfl (by decide) _ _ _ rfl (HRC.out.alloc _) ⟨w4.heap.size, 0, none⟩ 1 1 (cellsOf dg) rfl HYL.out (cells_id_new _ _) HI1.out (by unfold maxLen; omega) (by omega) (by have := HBC.out; simp; omega) ?_; intro v' w5 hown hgrow _; obtain ⟨g', cap', rfl⟩ := ownsRow_succ hown; have HF := Lib.hid (HFIN.out _ _ _ _ HC4.out.below hown hgrow); have hc1 := HF.out.1.cell; have hf1 := HF.out.1.frozen; clear hown hgrow))
      exact HF.out.2
    · have hce : chunkI b off ids.length x = .slice (some ⟨b, off + 2 * x.1 * 32, none⟩) 1 1 := by
        unfold chunkI lenAt
        rw [show min 2 (ids.length - 2 * x.1) = 1 from by omega]
      rw [hce]
      have HAT : Hid (aboveAt ids x.1 = ids.getD (2 * x.1) []) := by show _ = _; unfold aboveAt; rw [if_neg hx2]
      rw [HAT.out] at HFIN
      generalize ids.getD (2 * x.1) [] = x0 at *
      generalize off + 2 * x.1 * 32 = o1 at *
      clear hce HAT
      have HR0 := Lib.hid hr0
      have HL0 : Hid ((Tryd.prog.info? 30).map (·.size) = some (cellsOf x0).length) := by show _ = _; rw [Tryd.sizeId, length_cellsOf, hl0]
      have HL0' : Hid ((Tryd.prog.info? 30).map (·.size) = some (cellsOf x0).toArray.size) := by show _ = _; rw [Tryd.sizeId, List.size_toArray, length_cellsOf, hl0]
      have HZ0 : Hid (zeroId.toArray.size = (cellsOf x0).toArray.size) := by show _ = _; rw [List.size_toArray, List.size_toArray, length_cellsOf, hl0]; rfl
      have HO0 : Hid (((cellsOf x0).toArray).all (·.oneCell') = true) := cellsOf_one _
      have HC0 := Lib.hid (AbC.start W x0)
      clear hr0
      gi_upto_region 4 with (fail)
      refine wpIn_round_lit (by kernel_rfl) (fun ⟨_, _, h⟩ => h) ?_
      go_wp2_with (first
        | ((refine wpList_load_mid rfl 30 _ rfl b o1 ?_ (cellsOf x0) _ ?_ Tryd.undId rfl HL0.out ?_); (rfl); (exact HR0.out))
        | ((with_reducible refine wpList_store_rowTo rfl 30 _ _ rfl rfl W.heap.size (cellsOf x0).toArray ?_ ?_ 30 zeroId.toArray ?_ HL0'.out HZ0.out HO0.out ?_); (rfl); (rfl); (exact heap_alloc_new _ _); (show wpList _ _ _ _ _ (World.setRow (W.alloc (.cells zeroId.toArray 30)) W.heap.size (cellsOf x0).toArray)); (rw [setRow_alloc])))
      generalize W.alloc (.cells (cellsOf x0).toArray 30) = W1 at *
      have HBV := Lib.hid (builtId x0 hl0)
      have HLY : Hid ((Tryd.prog.info? 30).map (·.size) = some (cellsOf x0).toArray.size) := by show _ = _; rw [Tryd.sizeId, List.size_toArray, length_cellsOf, hl0]
      have hvc := (show Boxed W1 w.heap.size 36 (.slice ao pre.length co) from below_block HC0.out.below hv).cell
      have HRC := Lib.hid (row_below hrow HC0.out.below)
      have HI1 := Lib.hid (cells_u8_one x0)
      have HYL : Hid ((cellsOf x0).length = 1 * 32) := by show _ = _; rw [length_cellsOf, hl0]
      have HBC := Lib.hid (hB.trans (HC0.out.below.mono hB.size)).size
      gi_upto_region 7 with (fail)
      refine wpIn_round_lit (by kernel_rfl) (fun ⟨_, _, h⟩ => h) ?_
      go_wp2_with (first
        | ((refine wpList_load_row rfl 30 _ rfl W.heap.size ?_ 30 (cellsOf x0).toArray (0, 0) _ ?_ Tryd.undId rfl HLY.out ?_); (rfl); (exact HC0.out.blk))
        | ((refine Great.wpList_buildSliceTo rfl 36 30 1 _ rfl _ rfl _ rfl Tryd.underlying36 (cellsOf x0).toArray ?_ ?_); (simp only [List.map_toArray, List.map_cons, List.map_nil]; exact HBV.out))
        | (at_builtin; refine wpList_append_own _ rfl (.tmp 24) (.tmp 26) 36 rfl w.heap.size 30 i0 (.agg zeroId.toArray) 32 32 Tryd.underlying36 hi hz0 hz1 hz2 rfl (by decide) _ _ _ rfl (HRC.out.alloc _) ⟨W1.heap.size, 0, none⟩ 1 1 (cellsOf x0) rfl HYL.out (cells_id_new _ _) HI1.out (by unfold maxLen; omega) (by omega) (by have := HBC.out; simp; omega) ?_; intro v' w5 hown hgrow _; obtain ⟨g', cap', rfl⟩ := ownsRow_succ hown; have HF := Lib.hid (HFIN.out _ _ _ _ HC0.out.below hown hgrow); have hc1 := HF.out.1.cell; have hf1 := HF.out.1.frozen; clear hown hgrow))
      exact HF.out.2
  case done =>
    rintro D ys W hD rfl ⟨⟨⟨v, hv, hrow, _⟩, _, _⟩, hB⟩ hK
    have hc := hv.cell
    have hfl : (List.finRange (partsOf ids.length 2)).length = partsOf ids.length 2 := by simp
    rw [hfl] at hrow
    gi_wp2
    refine ⟨by simp, .inl ⟨_, _, rfl, run_takeDeferred hK, ?_⟩⟩
    exact ⟨_, results_tmp rfl _ _ _, v, rfl, ownsRow_putObj hrow _ hK rfl, hB.trans (belowK_b (w := w) (Nat.le_refl _) W D _ _ (by omega) hK rfl rfl)⟩
  case stop =>
    rintro D c pre W _ _ h _
    exact h.elim
end Go.Proofs.YtpogpfabnkgkfaaDoor
