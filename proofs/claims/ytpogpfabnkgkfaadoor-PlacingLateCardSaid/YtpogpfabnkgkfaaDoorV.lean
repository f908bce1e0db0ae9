/- Placer.Handle, walked: accepted and received. -/
import Derived.Test.YtpogpfabnkgkfaaDoorU
namespace Go.Proofs.YtpogpfabnkgkfaaDoor
open Go.RowKit Go.BigFrame Go.Maps Go.Shelf Go.Sort
set_option maxRecDepth 100000

/-! A note that comes in. -/
structure NIn where
  kind : Int
  id : List UInt8
  n : Int
  r : Int
  s1 : Value
  s2 : Value
def NIn.cells (q : NIn) : List Value := .int .i64 q.kind :: (cellsOf q.id ++ [.int .u64 q.n, .int .u64 q.r, q.s1, q.s2])

structure HAt (w0 : World) (B : Nat) (q : NIn) (L : PL) (M : PM) (w : World) : Prop where
  note : w.heap[B]? = some (.cells q.cells.toArray 38 (0, 0))
  pat : PAt w L M
  only : Only (inMaps L) w0 w
  new : w0.heap.size ≤ B
theorem HAt.below {w0 w w' : World} {B : Nat} {q : NIn} {L : PL} {M : PM} (h : HAt w0 B q L M w) (hb : Below w.heap.size w w') : HAt w0 B q L M w' :=
  ⟨below_block hb h.note, h.pat.below hb, h.only.trans_below hb, h.new⟩
theorem HAt.turn {w0 w w' : World} {B : Nat} {q : NIn} {L : PL} {M : PM} (h : HAt w0 B q L M w) {i : Nat} {l : WL} {st : Int → Int × Int} (hl : L.ws[i]? = some l) (hm : MapSt w' l.mb st) (ho : Only (fun j => j = l.mb) w w') : HAt w0 B q L (M.setSt i st) w' := by
  have hmem : inMaps L l.mb := ⟨l, List.mem_of_getElem? hl, rfl⟩
  exact ⟨only_block ho h.note (fun e => h.pat.notMap h.note (by rw [e]; exact hmem)), h.pat.turn hl hm ho, h.only.trans ho (fun j _ e => by rw [show j = l.mb from e]; exact hmem), h.new⟩
theorem HAt.start {w : World} {L : PL} {M : PM} (h : PAt w L M) (q : NIn) : HAt w w.heap.size q L M (w.alloc (.cells q.cells.toArray 38)) :=
  ⟨heap_alloc_new _ _, h.below ((Below.refl _ _).alloc (Nat.le_refl _) _), (Only.refl _ _).alloc _, Nat.le_refl _⟩
theorem HAt.range {w0 w : World} {B : Nat} {q : NIn} {L : PL} {M : PM} (h : HAt w0 B q L M w) : w.rangeAt B 1 (cellsOf q.id) := fun j v hj => by
  rw [cell_of_row _ _ _ _ _ _ h.note]
  have hlt : j < (cellsOf q.id).length := (List.getElem?_eq_some_iff.1 hj).1
  simp only [List.getElem?_toArray, NIn.cells, Nat.add_comm 1 j, List.getElem?_cons_succ]
  rw [List.getElem?_append_left hlt, hj]
theorem HAt.facts {w0 w : World} {B : Nat} {q : NIn} {L : PL} {M : PM} (h : HAt w0 B q L M w) (hid : q.id.length = 32) {g cap i : Nat} {l : WL} {x : WM} (hlv : L.lv = .slice (some ⟨g, 0, none⟩) L.ws.length cap) (h1 : L.ws[i]? = some l) (h2 : M.ws[i]? = some x) :
    w.cell? ⟨B, 0, none⟩ = some (.int .i64 q.kind) ∧ w.cell? ⟨B, 33, none⟩ = some (.int .u64 q.n) ∧ w.cell? ⟨L.pb, 1, none⟩ = some L.pv ∧ w.cell? ⟨L.pb, 2, none⟩ = some (.slice (some ⟨g, 0, none⟩) L.ws.length cap) ∧
      w.cell? ⟨g, i, none⟩ = some (.pointer (some ⟨l.wb, 0, none⟩)) ∧ w.cell? ⟨l.wb, 33, none⟩ = some (.map (some l.mb)) := by
  have hx := h.pat.ws i l x h1 h2
  have hr := h.pat.lv
  rw [hlv] at hr
  refine ⟨?_, ?_, h.pat.cells.2.1, ?_, ptr_cell hr i l h1, hx.mapCell⟩
  · rw [cell_of_row _ _ _ _ _ _ h.note]; rfl
  · rw [cell_of_row _ _ _ _ _ _ h.note]
    simp [NIn.cells, cellsOf, hid]
  · rw [← hlv]; exact h.pat.cells.2.2
theorem HAt.look {w0 w : World} {B : Nat} {q : NIn} {L : PL} {M : PM} (h : HAt w0 B q L M w) {i : Nat} {l : WL} {x : WM} (h1 : L.ws[i]? = some l) (h2 : M.ws[i]? = some x) {who how since : Int} (hw : 0 ≤ who ∧ who < 64) (hs : x.st who = (how, since)) :
    (Instr.lookup 56 (.map (some l.mb)) (.int .i64 who) false).run Tryd.prog w = .ok (.agg #[.int .i64 how, .int .u64 since]) w := by
  have e := (h.pat.ws i l x h1 h2).map.look (k := who) (by omega)
  rw [hs] at e
  exact e

theorem cao {w : World} {a : Addr} {v : Value} (h : w.cell? a = some v) (o : Obj) : (w.alloc o).cell? a = some v := by
  rw [World.cell?_alloc_some _ _ _ (by rw [h]; rfl)]; exact h

/-! What Handle does. -/
theorem noteSize (q : NIn) (h : q.id.length = 32) : (Tryd.prog.info? 38).map (·.size) = some q.cells.toArray.size := by rw [Tryd.sizeNote]; simp [NIn.cells, h]

theorem note_set35 (k : Int) (id : List UInt8) (h : id.length = 32) (n : Int) (bv : Value) : (noteCells k id n (.slice none 0 0)).toArray.setIfInBounds 35 bv = (noteCells k id n bv).toArray := by
  rw [List.setIfInBounds_toArray]
  congr 1
  unfold noteCells
  rw [List.set_cons_succ, List.set_append_right _ _ (by simp [h])]
  simp [h]
theorem oneCell_noteV (k : Int) (id : List UInt8) (n : Int) (ao : Option Addr) (m cap : Nat) : ((noteCells k id n (.slice ao m cap)).toArray).all (·.oneCell') = true := by
  simp only [noteCells, List.all_toArray, List.all_cons, List.all_append, Bool.and_eq_true, List.all_eq_true]
  exact ⟨rfl, oneCell_cellsOf id, rfl, rfl, rfl, rfl, fun _ h => by cases h⟩

theorem row_cells {w : World} {base e n g cap : Nat} {xs : List Value} (h : w.ownsRow base e 1 (.slice (some ⟨g, 0, none⟩) n cap) n xs) (hn : n ≠ 0) : (∀ j u, xs[j]? = some u → w.cell? ⟨g, 0 + j, none⟩ = some u) ∧ g < w.heap.size := by
  refine ⟨fun j u hj => ?_, ?_⟩
  · have e := h.cells (g := g) rfl j u hj
    rwa [Addr.add_mid] at e
  · obtain ⟨ao, c, e, h2⟩ := row_shape h
    obtain ⟨g', e2, _, h3⟩ := h2 hn
    injection e with e3 _ _
    rw [e2] at e3
    injection e3 with e3
    injection e3 with e3 _ _
    rw [e3]; exact h3
set_option maxHeartbeats 4000000 in
theorem handle_accept (L : PL) (M : PM) (i : Nat) (l : WL) (x : WM) (who now since how : Int) (q : NIn) (hq : q.id.length = 32) (hkind : q.kind = 2) (hn : 0 ≤ now ∧ now ≤ 18446744073709551615) (w : World) (h : PAt w L M)
    (hf : findI M q.id = i) (h1 : L.ws[i]? = some l) (h2 : M.ws[i]? = some x) (hin : who ∈ M.ps) (hplen : M.ps.length ≤ 1000) (hst : x.st who = (how, since)) (hhow : how = 1 ∨ how = 2) :
    Calls Tryd.prog 9 #[.pointer (some ⟨L.pb, 0, none⟩), .int .i64 who, .agg q.cells.toArray, .int .u64 now] w fun e w' => ∃ g bv, e = .returned (.slice (some ⟨g, 0, none⟩) 1 1) ∧
      w'.heap[g]? = some (.cells (sentCells who (noteCells 4 x.id 0 bv)).toArray 40 (0, 0)) ∧ w.heap.size ≤ g ∧ w'.ownsRow w.heap.size 5 1 bv x.bytes.length (cellsOf x.bytes) ∧ PAt w' L (M.setSt i (upd x.st who (2, now))) ∧ Only (inMaps L) w w' := by
  obtain ⟨ao, cap, hlv, hao⟩ := row_shape h.lv
  have hil : i < L.ws.length := (List.getElem?_eq_some_iff.1 h1).1
  obtain ⟨g, rfl, hg1, hg2⟩ := hao (by omega)
  have hwho := h.nodes _ hin
  have HH := Lib.hid (HAt.start h q)
  have HFI := Lib.hid (fun w' (h : PAt w' L M) => find_any L M q.id hq w' h)
  rw [hf] at HFI
  have HIN : Hid (decide (who ∈ M.ps) = true) := decide_eq_true hin
  have HXL : Hid ((Tryd.prog.info? 30).map (·.size) = some (cellsOf q.id).length) := by show _ = _; rw [Tryd.sizeId]; simp [hq]
  have hil' : (i : Int) < (L.ws.length : Int) := by omega
  have HFX := Lib.hid (fun w' (h : HAt w w.heap.size q L M w') => h.facts hq hlv h1 h2)
  have HLK := Lib.hid (fun w' (h : HAt w w.heap.size q L M w') => h.look h1 h2 hwho hst)
  rw [hkind] at HFX
  clear h hf hlv hao hin hst
  have HQ := Lib.hid (And.intro hq hkind)
  have d0 : decide ((i : Int) < 0) = false := decide_eq_false (by omega)
  clear hq hkind
  rcases hhow with rfl | rfl
  · go_enter Tryd.func9, Tryd.ntmps9
    go_upto_region 8 with (first
      | ((with_reducible refine wpList_load_mid rfl 30 _ rfl w.heap.size 1 ?_ (cellsOf q.id) _ ?_ Tryd.undId rfl HXL.out ?_); (rfl); (exact HH.out.range))
      | (go_at_call 18; refine (HFI.out _ (by exact HH.out.pat)).mono ?_; rintro e w1 ⟨rfl, hb⟩; have H1 := Lib.hid (HH.out.below hb); clear hb; obtain ⟨f1, f2, f3, f4, f5, f6⟩ := HFX.out _ H1.out; have f7 := HLK.out _ H1.out; have f1a := cao f1; have f2a := cao f2; have f6a := cao f6)
      | (go_at_call 28; refine (contains_any L.pv M.ps who _ hplen (by exact SliceAt.of_row H1.out.pat.ps)).mono ?_; rintro e w2 ⟨rfl, rfl⟩; rw [HIN.out]))
    have hwz := H1.out.pat.lt
    have H2 := Lib.hid (H1.out.below ((Below.refl _ _).alloc (Nat.le_refl _) (.cells #[.int .i64 1, .int .u64 since] 61)))
    have H0X := Lib.hid (And.intro h1 h2)
    clear f1 f2 f3 f4 f5 f6 f7 f1a f2a hwz
    have f6b := (H2.out.pat.ws i l x H0X.out.1 H0X.out.2).mapCell
    clear h1 h2
    generalize w2.alloc (.cells #[.int .i64 1, .int .u64 since] 61) = w3 at *
    have HXS := Lib.hid (fun wq (h : HAt w w.heap.size q L (M.setSt i (upd x.st who (2, now))) wq) => h.pat.ws i l _ H0X.out.1 (setSt_at M i (upd x.st who (2, now)) x H0X.out.2))
    have HWX := (H2.out.pat.ws i l x H0X.out.1 H0X.out.2)
    have HID : Hid (x.id.length = 32) := HWX.id
    have hbl := HWX.len
    obtain ⟨aob, capb, hbv, hbo⟩ := row_shape HWX.bytes
    obtain ⟨gb, rfl, hgb, _⟩ := hbo (by omega)
    have HBV := Lib.hid hbv
    have HSZ : Hid ((Tryd.prog.info? 38).map (·.size) = some (noteCells 4 x.id 0 (.slice none 0 0)).toArray.size) := by show _ = _; rw [Tryd.sizeNote]; simp [length_noteCells _ _ _ _ HID.out]
    have HNS : Hid (zeroNote.toArray.size = (noteCells 4 x.id 0 (.slice none 0 0)).toArray.size) := by show _ = _; simp [length_noteCells _ _ _ _ HID.out]; rfl
    have HOC := Lib.hid (oneCell_note 4 x.id 0)
    have HN35 : Hid ((noteCells 4 x.id 0 (.slice none 0 0)).toArray[35]? = some (.slice none 0 0)) := by have e := HID.out; show _ = _; simp [noteCells, cellsOf, e]
    have HSET := Lib.hid (note_set35 4 x.id HID.out 0)
    obtain ⟨fs, hfs⟩ := Tryd.undNote
    have HFSs := Lib.hid hfs
    have HCLB : Hid ((cellsOf x.bytes).length = x.bytes.length) := by show _ = _; simp
    have HOBY : Hid (∀ u ∈ cellsOf x.bytes, u.oneCell' = true) := oneCell_cellsOf x.bytes
    have HID2 := Lib.hid (fun wq (h : HAt w w.heap.size q L (M.setSt i (upd x.st who (2, now))) wq) => h)
    clear hbv hfs HWX hbo hgb
    generalize hnc : (noteCells 4 x.id 0 (.slice none 0 0)).toArray = nc at *
    have HNC := Lib.hid hnc
    clear hnc
    go_upto_region 11 with (first
      | (at_mapUpdate; refine wpList_store_st rfl _ _ _ rfl l.mb _ rfl (by exact (H2.out.pat.ws i l x H0X.out.1 H0X.out.2).map) who hwho rfl (2, now) rfl (show (2 : Int) ≠ 0 by decide) hn ?_; intro w4 hm4 ho4; have H4 := Lib.hid (H2.out.turn H0X.out.1 hm4 ho4); clear hm4 ho4)
      | (go_at_call 25; refine (note_any l.wb 4 x.id HID.out _ (by exact (HXS.out _ H4.out).idCells) (by exact (HXS.out _ H4.out).lt)).mono ?_; rintro e w5 ⟨rfl, hb5⟩; rw [HNC.out]; have H5 := Lib.hid (H4.out.below hb5); clear hb5; have hbc5 := (HXS.out _ H5.out).bytesCell; rw [HBV.out] at hbc5; have hbc5a := cao hbc5)
      | ((with_reducible refine wpList_store_rowTo rfl 38 _ _ rfl rfl w5.heap.size nc ?_ ?_ 38 zeroNote.toArray ?_ HSZ.out HNS.out HOC.out ?_); (rfl); (rfl); (exact heap_alloc_new _ _); (show wpList _ _ _ _ _ (World.setRow (w5.alloc (.cells zeroNote.toArray 38)) w5.heap.size nc)); (rw [setRow_alloc]))
      | (go_at_call 19; have hrc := row_cells (by have e := (HXS.out _ H5.out).bytes; rw [HBV.out] at e; exact e) (by omega : x.bytes.length ≠ 0); have hcl := cloneb_any gb 0 capb (cellsOf x.bytes) (w5.alloc (.cells nc 38)) HOBY.out (by rw [HCLB.out]; omega) (fun j u hj => cao (hrc.1 j u hj) _) (by rw [World.size_alloc]; omega); rw [HCLB.out] at hcl; refine hcl.mono ?_; clear hcl hrc; rintro e w6 ⟨v6, rfl, hrow6, hb6, _⟩; obtain ⟨ao6, cap6, rfl, _⟩ := row_shape hrow6; have HR6 := Lib.hid hrow6; have H6 := Lib.hid (H5.out.below (((Below.refl _ _).alloc (Nat.le_refl _) _).trans (hb6.mono (by simp)))); have HN6 := Lib.hid (below_block hb6 (heap_alloc_new w5 (.cells nc 38))); clear hrow6 hb6; have hc6 : w6.cell? ⟨w5.heap.size, 35, none⟩ = some (.slice none 0 0) := (cell_of_row _ _ _ _ _ _ HN6.out).trans HN35.out; have hz6 := frozen_of_row _ _ 35 _ _ HN6.out))
    have hw5 : w.heap.size ≤ w5.heap.size := H5.out.only.size
    have HN7 : Hid ((w6.setCell ⟨w5.heap.size, 35, none⟩ (.slice ao6 x.bytes.length cap6)).heap[w5.heap.size]? = some (.cells (noteCells 4 x.id 0 (.slice ao6 x.bytes.length cap6)).toArray 38 (0, 0))) := by
      show _ = _
      rw [heap_setCell_same _ _ _ _ _ _ _ HN6.out, HSET.out]
    have HO7 := Lib.hid (only_setCell w6 ⟨w5.heap.size, 35, none⟩ (.slice ao6 x.bytes.length cap6))
    have HP7 : Hid (PAt (w6.setCell ⟨w5.heap.size, 35, none⟩ (.slice ao6 x.bytes.length cap6)) L (M.setSt i (upd x.st who (2, now)))) := H6.out.pat.keepT 38 (by decide) HO7.out (fun j e o ho => by rw [show j = w5.heap.size from e, HN6.out] at ho; exact ⟨_, _, (Option.some.inj ho).symm⟩)
    have HR7 : Hid ((w6.setCell ⟨w5.heap.size, 35, none⟩ (.slice ao6 x.bytes.length cap6)).ownsRow w.heap.size 5 1 (.slice ao6 x.bytes.length cap6) x.bytes.length (cellsOf x.bytes)) := by
      refine row_only (row_base HR6.out (by rw [World.size_alloc]; omega)) HO7.out (fun g' hg' e => ?_)
      rcases HR6.out.2 with ⟨e1, _⟩ | ⟨g2, cap2, cur, e1, _, c, _⟩
      · rw [e1] at hg'; cases hg'
      · rw [e1] at hg'
        cases hg'
        rw [show g2 = w5.heap.size from e, HN6.out] at c
        injection c with c
        injection c with _ c _
        exact absurd c (by decide)
    have HL7 : Hid (Only (inMaps L) w (w6.setCell ⟨w5.heap.size, 35, none⟩ (.slice ao6 x.bytes.length cap6))) := H6.out.only.trans HO7.out (fun j hj e => absurd hj (by rw [show j = w5.heap.size from e]; omega))
    clear hc6 hz6 HO7 HN6 HR6
    generalize w6.setCell ⟨w5.heap.size, 35, none⟩ (.slice ao6 x.bytes.length cap6) = w7 at *
    have HSB := Lib.hid (builtSent2 who (noteCells 4 x.id 0 (.slice ao6 x.bytes.length cap6)) (length_noteCells _ _ _ _ HID.out))
    have HSC : Hid ((sentCells who (noteCells 4 x.id 0 (.slice ao6 x.bytes.length cap6))).length = 38) := by show _ = _; simp [sentCells, length_noteCells _ _ _ _ HID.out]
    have HSS := Lib.hid (builtSlice1 _ HSC.out)
    have HSZ2 : Hid ((Tryd.prog.info? 38).map (·.size) = some (noteCells 4 x.id 0 (.slice ao6 x.bytes.length cap6)).toArray.size) := by show _ = _; rw [Tryd.sizeNote]; simp [length_noteCells _ _ _ _ HID.out]
    generalize hnv : (noteCells 4 x.id 0 (.slice ao6 x.bytes.length cap6)) = nv at *
    have HNV := Lib.hid hnv
    clear hnv
    go_wp2_with (first
      | ((refine wpList_load_row rfl 38 _ rfl w5.heap.size ?_ 38 nv.toArray (0, 0) _ ?_ HFSs.out rfl HSZ2.out ?_); (rfl); (exact HN7.out))
      | ((with_reducible refine wpList_buildTo rfl 40 _ rfl _ rfl (sentCells who nv).toArray ?_ ?_); (simp only [List.map_toArray, List.map_cons, List.map_nil]; exact HSB.out))
      | ((refine Great.wpList_buildSliceTo rfl 34 40 1 _ rfl _ rfl _ rfl Tryd.underlying34 (sentCells who nv).toArray ?_ ?_); (simp only [List.map_toArray, List.map_cons, List.map_nil]; exact HSS.out)))
    go_ret
    have hb8 : Below w7.heap.size w7 (w7.alloc (.cells (sentCells who nv).toArray 40)) := (Below.refl _ _).alloc (Nat.le_refl _) _
    exact ⟨w7.heap.size, .slice ao6 x.bytes.length cap6, rfl, by rw [HNV.out]; exact heap_alloc_new _ _, HL7.out.size, row_below HR7.out hb8, HP7.out.below hb8, HL7.out.trans_below hb8⟩
  · go_enter Tryd.func9, Tryd.ntmps9
    go_upto_region 8 with (first
      | ((with_reducible refine wpList_load_mid rfl 30 _ rfl w.heap.size 1 ?_ (cellsOf q.id) _ ?_ Tryd.undId rfl HXL.out ?_); (rfl); (exact HH.out.range))
      | (go_at_call 18; refine (HFI.out _ (by exact HH.out.pat)).mono ?_; rintro e w1 ⟨rfl, hb⟩; have H1 := Lib.hid (HH.out.below hb); clear hb; obtain ⟨f1, f2, f3, f4, f5, f6⟩ := HFX.out _ H1.out; have f7 := HLK.out _ H1.out; have f1a := cao f1; have f2a := cao f2; have f6a := cao f6)
      | (go_at_call 28; refine (contains_any L.pv M.ps who _ hplen (by exact SliceAt.of_row H1.out.pat.ps)).mono ?_; rintro e w2 ⟨rfl, rfl⟩; rw [HIN.out]))
    have hwz := H1.out.pat.lt
    have H2 := Lib.hid (H1.out.below ((Below.refl _ _).alloc (Nat.le_refl _) (.cells #[.int .i64 2, .int .u64 since] 61)))
    have H0X := Lib.hid (And.intro h1 h2)
    clear f1 f2 f3 f4 f5 f6 f7 f1a f2a hwz
    have f6b := (H2.out.pat.ws i l x H0X.out.1 H0X.out.2).mapCell
    clear h1 h2
    generalize w2.alloc (.cells #[.int .i64 2, .int .u64 since] 61) = w3 at *
    have HXS := Lib.hid (fun wq (h : HAt w w.heap.size q L (M.setSt i (upd x.st who (2, now))) wq) => h.pat.ws i l _ H0X.out.1 (setSt_at M i (upd x.st who (2, now)) x H0X.out.2))
    have HWX := (H2.out.pat.ws i l x H0X.out.1 H0X.out.2)
    have HID : Hid (x.id.length = 32) := HWX.id
    have hbl := HWX.len
    obtain ⟨aob, capb, hbv, hbo⟩ := row_shape HWX.bytes
    obtain ⟨gb, rfl, hgb, _⟩ := hbo (by omega)
    have HBV := Lib.hid hbv
    have HSZ : Hid ((Tryd.prog.info? 38).map (·.size) = some (noteCells 4 x.id 0 (.slice none 0 0)).toArray.size) := by show _ = _; rw [Tryd.sizeNote]; simp [length_noteCells _ _ _ _ HID.out]
    have HNS : Hid (zeroNote.toArray.size = (noteCells 4 x.id 0 (.slice none 0 0)).toArray.size) := by show _ = _; simp [length_noteCells _ _ _ _ HID.out]; rfl
    have HOC := Lib.hid (oneCell_note 4 x.id 0)
    have HN35 : Hid ((noteCells 4 x.id 0 (.slice none 0 0)).toArray[35]? = some (.slice none 0 0)) := by have e := HID.out; show _ = _; simp [noteCells, cellsOf, e]
    have HSET := Lib.hid (note_set35 4 x.id HID.out 0)
    obtain ⟨fs, hfs⟩ := Tryd.undNote
    have HFSs := Lib.hid hfs
    have HCLB : Hid ((cellsOf x.bytes).length = x.bytes.length) := by show _ = _; simp
    have HOBY : Hid (∀ u ∈ cellsOf x.bytes, u.oneCell' = true) := oneCell_cellsOf x.bytes
    have HID2 := Lib.hid (fun wq (h : HAt w w.heap.size q L (M.setSt i (upd x.st who (2, now))) wq) => h)
    clear hbv hfs HWX hbo hgb
    generalize hnc : (noteCells 4 x.id 0 (.slice none 0 0)).toArray = nc at *
    have HNC := Lib.hid hnc
    clear hnc
    go_upto_region 11 with (first
      | (at_mapUpdate; refine wpList_store_st rfl _ _ _ rfl l.mb _ rfl (by exact (H2.out.pat.ws i l x H0X.out.1 H0X.out.2).map) who hwho rfl (2, now) rfl (show (2 : Int) ≠ 0 by decide) hn ?_; intro w4 hm4 ho4; have H4 := Lib.hid (H2.out.turn H0X.out.1 hm4 ho4); clear hm4 ho4)
      | (go_at_call 25; refine (note_any l.wb 4 x.id HID.out _ (by exact (HXS.out _ H4.out).idCells) (by exact (HXS.out _ H4.out).lt)).mono ?_; rintro e w5 ⟨rfl, hb5⟩; rw [HNC.out]; have H5 := Lib.hid (H4.out.below hb5); clear hb5; have hbc5 := (HXS.out _ H5.out).bytesCell; rw [HBV.out] at hbc5; have hbc5a := cao hbc5)
      | ((with_reducible refine wpList_store_rowTo rfl 38 _ _ rfl rfl w5.heap.size nc ?_ ?_ 38 zeroNote.toArray ?_ HSZ.out HNS.out HOC.out ?_); (rfl); (rfl); (exact heap_alloc_new _ _); (show wpList _ _ _ _ _ (World.setRow (w5.alloc (.cells zeroNote.toArray 38)) w5.heap.size nc)); (rw [setRow_alloc]))
      | (go_at_call 19; have hrc := row_cells (by have e := (HXS.out _ H5.out).bytes; rw [HBV.out] at e; exact e) (by omega : x.bytes.length ≠ 0); have hcl := cloneb_any gb 0 capb (cellsOf x.bytes) (w5.alloc (.cells nc 38)) HOBY.out (by rw [HCLB.out]; omega) (fun j u hj => cao (hrc.1 j u hj) _) (by rw [World.size_alloc]; omega); rw [HCLB.out] at hcl; refine hcl.mono ?_; clear hcl hrc; rintro e w6 ⟨v6, rfl, hrow6, hb6, _⟩; obtain ⟨ao6, cap6, rfl, _⟩ := row_shape hrow6; have HR6 := Lib.hid hrow6; have H6 := Lib.hid (H5.out.below (((Below.refl _ _).alloc (Nat.le_refl _) _).trans (hb6.mono (by simp)))); have HN6 := Lib.hid (below_block hb6 (heap_alloc_new w5 (.cells nc 38))); clear hrow6 hb6; have hc6 : w6.cell? ⟨w5.heap.size, 35, none⟩ = some (.slice none 0 0) := (cell_of_row _ _ _ _ _ _ HN6.out).trans HN35.out; have hz6 := frozen_of_row _ _ 35 _ _ HN6.out))
    have hw5 : w.heap.size ≤ w5.heap.size := H5.out.only.size
    have HN7 : Hid ((w6.setCell ⟨w5.heap.size, 35, none⟩ (.slice ao6 x.bytes.length cap6)).heap[w5.heap.size]? = some (.cells (noteCells 4 x.id 0 (.slice ao6 x.bytes.length cap6)).toArray 38 (0, 0))) := by
      show _ = _
      rw [heap_setCell_same _ _ _ _ _ _ _ HN6.out, HSET.out]
    have HO7 := Lib.hid (only_setCell w6 ⟨w5.heap.size, 35, none⟩ (.slice ao6 x.bytes.length cap6))
    have HP7 : Hid (PAt (w6.setCell ⟨w5.heap.size, 35, none⟩ (.slice ao6 x.bytes.length cap6)) L (M.setSt i (upd x.st who (2, now)))) := H6.out.pat.keepT 38 (by decide) HO7.out (fun j e o ho => by rw [show j = w5.heap.size from e, HN6.out] at ho; exact ⟨_, _, (Option.some.inj ho).symm⟩)
    have HR7 : Hid ((w6.setCell ⟨w5.heap.size, 35, none⟩ (.slice ao6 x.bytes.length cap6)).ownsRow w.heap.size 5 1 (.slice ao6 x.bytes.length cap6) x.bytes.length (cellsOf x.bytes)) := by
      refine row_only (row_base HR6.out (by rw [World.size_alloc]; omega)) HO7.out (fun g' hg' e => ?_)
      rcases HR6.out.2 with ⟨e1, _⟩ | ⟨g2, cap2, cur, e1, _, c, _⟩
      · rw [e1] at hg'; cases hg'
      · rw [e1] at hg'
        cases hg'
        rw [show g2 = w5.heap.size from e, HN6.out] at c
        injection c with c
        injection c with _ c _
        exact absurd c (by decide)
    have HL7 : Hid (Only (inMaps L) w (w6.setCell ⟨w5.heap.size, 35, none⟩ (.slice ao6 x.bytes.length cap6))) := H6.out.only.trans HO7.out (fun j hj e => absurd hj (by rw [show j = w5.heap.size from e]; omega))
    clear hc6 hz6 HO7 HN6 HR6
    generalize w6.setCell ⟨w5.heap.size, 35, none⟩ (.slice ao6 x.bytes.length cap6) = w7 at *
    have HSB := Lib.hid (builtSent2 who (noteCells 4 x.id 0 (.slice ao6 x.bytes.length cap6)) (length_noteCells _ _ _ _ HID.out))
    have HSC : Hid ((sentCells who (noteCells 4 x.id 0 (.slice ao6 x.bytes.length cap6))).length = 38) := by show _ = _; simp [sentCells, length_noteCells _ _ _ _ HID.out]
    have HSS := Lib.hid (builtSlice1 _ HSC.out)
    have HSZ2 : Hid ((Tryd.prog.info? 38).map (·.size) = some (noteCells 4 x.id 0 (.slice ao6 x.bytes.length cap6)).toArray.size) := by show _ = _; rw [Tryd.sizeNote]; simp [length_noteCells _ _ _ _ HID.out]
    generalize hnv : (noteCells 4 x.id 0 (.slice ao6 x.bytes.length cap6)) = nv at *
    have HNV := Lib.hid hnv
    clear hnv
    go_wp2_with (first
      | ((refine wpList_load_row rfl 38 _ rfl w5.heap.size ?_ 38 nv.toArray (0, 0) _ ?_ HFSs.out rfl HSZ2.out ?_); (rfl); (exact HN7.out))
      | ((with_reducible refine wpList_buildTo rfl 40 _ rfl _ rfl (sentCells who nv).toArray ?_ ?_); (simp only [List.map_toArray, List.map_cons, List.map_nil]; exact HSB.out))
      | ((refine Great.wpList_buildSliceTo rfl 34 40 1 _ rfl _ rfl _ rfl Tryd.underlying34 (sentCells who nv).toArray ?_ ?_); (simp only [List.map_toArray, List.map_cons, List.map_nil]; exact HSS.out)))
    go_ret
    have hb8 : Below w7.heap.size w7 (w7.alloc (.cells (sentCells who nv).toArray 40)) := (Below.refl _ _).alloc (Nat.le_refl _) _
    exact ⟨w7.heap.size, .slice ao6 x.bytes.length cap6, rfl, by rw [HNV.out]; exact heap_alloc_new _ _, HL7.out.size, row_below HR7.out hb8, HP7.out.below hb8, HL7.out.trans_below hb8⟩

set_option maxHeartbeats 4000000 in
theorem handle_receipt (L : PL) (M : PM) (i : Nat) (l : WL) (x : WM) (who now since how : Int) (q : NIn) (hq : q.id.length = 32) (hkind : q.kind = 5) (w : World) (h : PAt w L M)
    (hf : findI M q.id = i) (h1 : L.ws[i]? = some l) (h2 : M.ws[i]? = some x) (hin : who ∈ M.ps) (hplen : M.ps.length ≤ 1000) (hst : x.st who = (how, since)) (hhow : how = 1 ∨ how = 2 ∨ how = 4) :
    Calls Tryd.prog 9 #[.pointer (some ⟨L.pb, 0, none⟩), .int .i64 who, .agg q.cells.toArray, .int .u64 now] w fun e w' => e = .returned (.slice none 0 0) ∧ PAt w' L (M.setSt i (upd x.st who (3, 0))) ∧ Only (inMaps L) w w' := by
  obtain ⟨ao, cap, hlv, hao⟩ := row_shape h.lv
  have hil : i < L.ws.length := (List.getElem?_eq_some_iff.1 h1).1
  obtain ⟨g, rfl, hg1, hg2⟩ := hao (by omega)
  have hwho := h.nodes _ hin
  have HH := Lib.hid (HAt.start h q)
  have HFI := Lib.hid (fun w' (h : PAt w' L M) => find_any L M q.id hq w' h)
  rw [hf] at HFI
  have HIN : Hid (decide (who ∈ M.ps) = true) := decide_eq_true hin
  have HXL : Hid ((Tryd.prog.info? 30).map (·.size) = some (cellsOf q.id).length) := by show _ = _; rw [Tryd.sizeId]; simp [hq]
  have hil' : (i : Int) < (L.ws.length : Int) := by omega
  have HFX := Lib.hid (fun w' (h : HAt w w.heap.size q L M w') => h.facts hq hlv h1 h2)
  have HLK := Lib.hid (fun w' (h : HAt w w.heap.size q L M w') => h.look h1 h2 hwho hst)
  rw [hkind] at HFX
  clear h hf hlv hao hin hst
  have HQ := Lib.hid (And.intro hq hkind)
  have d0 : decide ((i : Int) < 0) = false := decide_eq_false (by omega)
  clear hq hkind
  rcases hhow with rfl | rfl | rfl
  · skip
    go_enter Tryd.func9, Tryd.ntmps9
    go_upto_region 13 with (first
      | ((with_reducible refine wpList_load_mid rfl 30 _ rfl w.heap.size 1 ?_ (cellsOf q.id) _ ?_ Tryd.undId rfl HXL.out ?_); (rfl); (exact HH.out.range))
      | (go_at_call 18; refine (HFI.out _ (by exact HH.out.pat)).mono ?_; rintro e w1 ⟨rfl, hb⟩; have H1 := Lib.hid (HH.out.below hb); clear hb; obtain ⟨f1, f2, f3, f4, f5, f6⟩ := HFX.out _ H1.out; have f7 := HLK.out _ H1.out; have f1a := cao f1; have f2a := cao f2; have f6a := cao f6)
      | (go_at_call 28; refine (contains_any L.pv M.ps who _ hplen (by exact SliceAt.of_row H1.out.pat.ps)).mono ?_; rintro e w2 ⟨rfl, rfl⟩; rw [HIN.out]))
    have H2 := Lib.hid (H1.out.below ((Below.refl _ _).alloc (Nat.le_refl _) (.cells #[.int .i64 1, .int .u64 since] 61)))
    have H0X := Lib.hid (And.intro h1 h2)
    clear f1 f2 f3 f4 f5 f6 f7 f1a f2a
    have f6b := (H2.out.pat.ws i l x H0X.out.1 H0X.out.2).mapCell
    clear h1 h2
    generalize w2.alloc (.cells #[.int .i64 1, .int .u64 since] 61) = w3 at *
    go_wp2_with (first
      | (at_mapUpdate; refine wpList_store_st rfl _ _ _ rfl l.mb _ rfl (by exact (H2.out.pat.ws i l x H0X.out.1 H0X.out.2).map) who hwho rfl (3, 0) rfl (show (3 : Int) ≠ 0 by decide) ⟨by decide, by decide⟩ ?_; intro w4 hm4 ho4; have H4 := Lib.hid (H2.out.turn H0X.out.1 hm4 ho4); clear hm4 ho4))
    go_ret
    exact ⟨rfl, H4.out.pat, H4.out.only⟩
  · skip
    go_enter Tryd.func9, Tryd.ntmps9
    go_upto_region 13 with (first
      | ((with_reducible refine wpList_load_mid rfl 30 _ rfl w.heap.size 1 ?_ (cellsOf q.id) _ ?_ Tryd.undId rfl HXL.out ?_); (rfl); (exact HH.out.range))
      | (go_at_call 18; refine (HFI.out _ (by exact HH.out.pat)).mono ?_; rintro e w1 ⟨rfl, hb⟩; have H1 := Lib.hid (HH.out.below hb); clear hb; obtain ⟨f1, f2, f3, f4, f5, f6⟩ := HFX.out _ H1.out; have f7 := HLK.out _ H1.out; have f1a := cao f1; have f2a := cao f2; have f6a := cao f6)
      | (go_at_call 28; refine (contains_any L.pv M.ps who _ hplen (by exact SliceAt.of_row H1.out.pat.ps)).mono ?_; rintro e w2 ⟨rfl, rfl⟩; rw [HIN.out]))
    have H2 := Lib.hid (H1.out.below ((Below.refl _ _).alloc (Nat.le_refl _) (.cells #[.int .i64 2, .int .u64 since] 61)))
    have H0X := Lib.hid (And.intro h1 h2)
    clear f1 f2 f3 f4 f5 f6 f7 f1a f2a
    have f6b := (H2.out.pat.ws i l x H0X.out.1 H0X.out.2).mapCell
    clear h1 h2
    generalize w2.alloc (.cells #[.int .i64 2, .int .u64 since] 61) = w3 at *
    go_wp2_with (first
      | (at_mapUpdate; refine wpList_store_st rfl _ _ _ rfl l.mb _ rfl (by exact (H2.out.pat.ws i l x H0X.out.1 H0X.out.2).map) who hwho rfl (3, 0) rfl (show (3 : Int) ≠ 0 by decide) ⟨by decide, by decide⟩ ?_; intro w4 hm4 ho4; have H4 := Lib.hid (H2.out.turn H0X.out.1 hm4 ho4); clear hm4 ho4))
    go_ret
    exact ⟨rfl, H4.out.pat, H4.out.only⟩
  · skip
    go_enter Tryd.func9, Tryd.ntmps9
    go_upto_region 13 with (first
      | ((with_reducible refine wpList_load_mid rfl 30 _ rfl w.heap.size 1 ?_ (cellsOf q.id) _ ?_ Tryd.undId rfl HXL.out ?_); (rfl); (exact HH.out.range))
      | (go_at_call 18; refine (HFI.out _ (by exact HH.out.pat)).mono ?_; rintro e w1 ⟨rfl, hb⟩; have H1 := Lib.hid (HH.out.below hb); clear hb; obtain ⟨f1, f2, f3, f4, f5, f6⟩ := HFX.out _ H1.out; have f7 := HLK.out _ H1.out; have f1a := cao f1; have f2a := cao f2; have f6a := cao f6)
      | (go_at_call 28; refine (contains_any L.pv M.ps who _ hplen (by exact SliceAt.of_row H1.out.pat.ps)).mono ?_; rintro e w2 ⟨rfl, rfl⟩; rw [HIN.out]))
    have H2 := Lib.hid (H1.out.below ((Below.refl _ _).alloc (Nat.le_refl _) (.cells #[.int .i64 4, .int .u64 since] 61)))
    have H0X := Lib.hid (And.intro h1 h2)
    clear f1 f2 f3 f4 f5 f6 f7 f1a f2a
    have f6b := (H2.out.pat.ws i l x H0X.out.1 H0X.out.2).mapCell
    clear h1 h2
    generalize w2.alloc (.cells #[.int .i64 4, .int .u64 since] 61) = w3 at *
    go_wp2_with (first
      | (at_mapUpdate; refine wpList_store_st rfl _ _ _ rfl l.mb _ rfl (by exact (H2.out.pat.ws i l x H0X.out.1 H0X.out.2).map) who hwho rfl (3, 0) rfl (show (3 : Int) ≠ 0 by decide) ⟨by decide, by decide⟩ ?_; intro w4 hm4 ho4; have H4 := Lib.hid (H2.out.turn H0X.out.1 hm4 ho4); clear hm4 ho4))
    go_ret
    exact ⟨rfl, H4.out.pat, H4.out.only⟩
end Go.Proofs.YtpogpfabnkgkfaaDoor
