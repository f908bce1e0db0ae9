/- Placer.Next, walked: for every placer in memory. -/
import Derived.Test.YtpogpfabnkgkfaaDoorL
namespace Go.Proofs.YtpogpfabnkgkfaaDoor
open Go.RowKit Go.BigFrame Go.Maps Go.Shelf Go.Sort
set_option maxRecDepth 100000

def inMaps (L : PL) : Nat → Prop := fun j => ∃ l ∈ L.ws, l.mb = j
theorem PAt.notMap {w : World} {L : PL} {M : PM} (h : PAt w L M) {b : Nat} {cs : Array Value} {t : TypeId} {fr : Nat × Nat} (hb : w.heap[b]? = some (.cells cs t fr)) : ¬ inMaps L b := by
  rintro ⟨l, hl, e⟩
  obtain ⟨i, hi, e2⟩ := List.mem_iff_getElem.1 hl
  obtain ⟨l0, x, h1, _, hx⟩ := h.at_ hi
  have : l0 = l := by rw [List.getElem?_eq_getElem hi, e2] at h1; exact (Option.some.inj h1).symm
  subst this
  obtain ⟨D, ⟨es, clock, hm, _⟩, _⟩ := hx.map
  rw [e, hb] at hm
  cases hm
theorem inMaps_at {L : PL} {i : Nat} {l : WL} (h : L.ws[i]? = some l) : inMaps L l.mb := ⟨l, by obtain ⟨hi, e⟩ := List.getElem?_eq_some_iff.1 h; rw [← e]; exact List.getElem_mem hi, rfl⟩
theorem inMaps_lt {w : World} {L : PL} {M : PM} (h : PAt w L M) {j : Nat} (hj : inMaps L j) : j < w.heap.size := by
  obtain ⟨l, hl, rfl⟩ := hj
  obtain ⟨i, hi, e2⟩ := List.mem_iff_getElem.1 hl
  obtain ⟨l0, x, h1, _, hx⟩ := h.at_ hi
  have : l0 = l := by rw [List.getElem?_eq_getElem hi, e2] at h1; exact (Option.some.inj h1).symm
  subst this
  exact hx.map.lt

/-- What holds between two packs of Next: B: the heap's size when the call began; c: the cell of now. -/
structure NextRel (W0 : World) (L : PL) (c : Nat) (now : Int) (M : PM) (outs : List Off) (vo : Value) (wr : World) : Prop where
  pat : PAt wr L M
  row : wr.ownsRow W0.heap.size 40 38 vo outs.length ((outs.map offCells).flatten)
  only : Only (inMaps L) W0 wr
  cell : W0.heap.size ≤ c ∧ wr.heap[c]? = some (.cells #[.int .u64 now] 33 (0, 0))
theorem NextRel.below {W0 : World} {L : PL} {c : Nat} {now : Int} {M : PM} {outs : List Off} {vo : Value} {wr w' : World} (h : NextRel W0 L c now M outs vo wr) (hb : Below wr.heap.size wr w') : NextRel W0 L c now M outs vo w' :=
  ⟨h.pat.below hb, row_below h.row hb, h.only.trans_below hb, h.cell.1, below_block hb h.cell.2⟩
theorem NextRel.turn {W0 : World} {L : PL} {c : Nat} {now : Int} {M : PM} {outs : List Off} {vo : Value} {wr w' : World} (h : NextRel W0 L c now M outs vo wr) {i : Nat} {l : WL} {st : Int → Int × Int} (hl : L.ws[i]? = some l) (hm : MapSt w' l.mb st)
    (ho : Only (fun j => j = l.mb) wr w') : NextRel W0 L c now (M.setSt i st) outs vo w' := by
  have hin := inMaps_at hl
  have no : ∀ b cs t fr, wr.heap[b]? = some (.cells cs t fr) → ¬ (b = l.mb) := fun b cs t fr hc e => h.pat.notMap hc (e ▸ hin)
  refine ⟨h.pat.turn hl hm ho, ?_, h.only.trans ho (fun j _ e => e ▸ hin), h.cell.1, only_block ho h.cell.2 (no _ _ _ _ h.cell.2)⟩
  refine row_only h.row ho fun g hg => ?_
  rcases h.row.2 with ⟨e, _⟩ | ⟨g', cap, cur, e, _, d, _⟩
  · rw [e] at hg; cases hg
  · rw [e] at hg; cases hg; exact no _ _ _ _ d
theorem NextRel.now_cell {W0 : World} {L : PL} {c : Nat} {now : Int} {M : PM} {outs : List Off} {vo : Value} {wr : World} (h : NextRel W0 L c now M outs vo wr) : wr.cell? ⟨c, 0, none⟩ = some (.int .u64 now) := by
  rw [cell_of_row _ _ _ _ _ _ h.cell.2]; rfl
theorem NextRel.ptr {W0 : World} {L : PL} {c : Nat} {now : Int} {M : PM} {outs : List Off} {vo : Value} {wr : World} (h : NextRel W0 L c now M outs vo wr) {g N cap k : Nat} {l : WL} (hlv : L.lv = .slice (some ⟨g, 0, none⟩) N cap) (hN : L.ws.length = N) (hl : L.ws[k]? = some l) :
    wr.cell? ⟨g, k, none⟩ = some (.pointer (some ⟨l.wb, 0, none⟩)) := by
  have e := h.pat.lv
  rw [hlv, hN] at e
  exact ptr_cell e k l hl

theorem fillW_length (now : Int) (i : Nat) : ∀ (f : Nat) (M : PM), (fillW now i f M).2.length ≤ f
  | 0, M => by simp [fillW]
  | f + 1, M => by
    unfold fillW
    split
    · split
      · have := fillW_length now i f (M.setSt i (upd (M.stOf i) (bestI M (M.stOf i)) (1, now)))
        simp only [List.length_cons]; omega
      · simp
    · simp
theorem nextTo_length (now : Int) (M : PM) : ∀ k, (nextTo now M k).2.length ≤ 9 * k
  | 0 => by simp [nextTo]
  | k + 1 => by
    have ih := nextTo_length now M k
    have := fillW_length now k 9 ((nextTo now M k).1.setSt k (failLate ((nextTo now M k).1.stOf k) now))
    simp only [nextTo, List.length_append]
    cases (nextTo now M k).1.ws[k]? with
    | none => simp; omega
    | some x => simp only [offers, List.length_map, nextW]; omega

structure FillRel (W0 : World) (L : PL) (c : Nat) (now : Int) (k : Nat) (x : WM) (M2 : PM) (O1 : List Off) (gg : Nat) (M' : PM) (st' : Int → Int × Int) (l' : List Int) (vo : Value) (wq : World) : Prop where
  rel : NextRel W0 L c now M' (O1 ++ offers x l') vo wq
  at_ : M'.ws[k]? = some { x with st := st' }
  fill : fillW now k 9 M2 = ((fillW now k gg M').1, l' ++ (fillW now k gg M').2)
  cnt : l'.length + gg ≤ 9
  busy : 9 ≤ busyN st' + gg
  k8 : 1 ≤ M'.k ∧ M'.k ≤ 8

theorem busy_rel {W0 : World} {L : PL} {c : Nat} {now : Int} {M : PM} {outs : List Off} {vo : Value} {wr : World} (h : Hid (NextRel W0 L c now M outs vo wr)) {k : Nat} {l : WL} {x : WM} {st : Int → Int × Int} (hl : L.ws[k]? = some l) (hx : M.ws[k]? = some { x with st := st }) :
    Calls Tryd.prog 20 #[.pointer (some ⟨l.wb, 0, none⟩), .func (.func 23) #[] #[]] wr fun e w' => ∃ ao cap, e = .returned (.slice ao (busyN st) cap) ∧ Below wr.heap.size wr w' := by
  have hw := h.out.pat.ws k l _ hl hx
  refine (all_busy l.wb l.mb st wr hw.mapCell hw.lt hw.map).mono ?_
  rintro e w' ⟨v, rfl, hrow, hb⟩
  obtain ⟨ao, cap, rfl, _⟩ := row_shape hrow
  exact ⟨ao, cap, rfl, hb⟩
theorem best_rel {W0 : World} {L : PL} {c : Nat} {now : Int} {M : PM} {outs : List Off} {vo : Value} {wr : World} (h : NextRel W0 L c now M outs vo wr) {k : Nat} {l : WL} {x : WM} {st : Int → Int × Int} (hl : L.ws[k]? = some l) (hx : M.ws[k]? = some { x with st := st }) :
    Calls Tryd.prog 24 #[.pointer (some ⟨L.pb, 0, none⟩), .pointer (some ⟨l.wb, 0, none⟩)] wr fun e w' => e = .returned (.tuple #[.int .i64 (bestI M st), .bool (bestB M st)]) ∧ Below wr.heap.size wr w' :=
  best_any L M l _ wr h.pat (h.pat.ws k l _ hl hx)
theorem keep_next {W0 : World} {L : PL} {c : Nat} {now : Int} {M : PM} {outs : List Off} {vo : Value} {wr w' : World} (h : Hid (NextRel W0 L c now M outs vo wr)) (hb : Below wr.heap.size wr w') :
    w'.cell? ⟨L.pb, 0, none⟩ = some (.int .i64 M.k) ∧ Hid (NextRel W0 L c now M outs vo w') := ⟨((h.out.below hb).pat).cells.1, h.out.below hb⟩

theorem fill_end {W0 : World} {L : PL} {c : Nat} {now : Int} {k : Nat} {x : WM} {M M1 M' : PM} {O1 : List Off} {gg : Nat} {st' : Int → Int × Int} {l' : List Int} {vo : Value} {wq w2 : World} (hM1 : (nextTo now M k).1 = M1) (hO1 : (nextTo now M k).2 = O1) (h2 : M1.ws[k]? = some x)
    (hF : FillRel W0 L c now k x (M1.setSt k (failLate x.st now)) O1 gg M' st' l' vo wq) (hs : fillW now k gg M' = (M', [])) (hN : NextRel W0 L c now M' (O1 ++ offers x l') vo w2) : NextRel W0 L c now (nextTo now M (k + 1)).1 (nextTo now M (k + 1)).2 vo w2 := by
  have e1 : nextW now k M1 = (M', l') := by
    unfold nextW
    rw [stOf_at h2, hF.fill, hs]
    simp
  have e2 : nextTo now M (k + 1) = (M', O1 ++ offers x l') := by
    show ((nextW now k (nextTo now M k).1).1, (nextTo now M k).2 ++ match (nextTo now M k).1.ws[k]? with | some x => offers x (nextW now k (nextTo now M k).1).2 | none => []) = _
    rw [hM1, hO1, e1, h2]
  rw [e2]
  exact hN
theorem fillW_stop1 {now : Int} {k g : Nat} {M : PM} {x : WM} {st : Int → Int × Int} (hx : M.ws[k]? = some { x with st := st }) (h : ¬ (busyN st : Int) < M.k) : fillW now k g M = (M, []) := by
  have e : M.stOf k = st := stOf_at hx
  cases g with
  | zero => rfl
  | succ g => rw [fillW, e, if_neg h]
theorem fillW_stop2 {now : Int} {k g : Nat} {M : PM} {x : WM} {st : Int → Int × Int} (hx : M.ws[k]? = some { x with st := st }) (h : bestB M st = false) : fillW now k g M = (M, []) := by
  have e : M.stOf k = st := stOf_at hx
  cases g with
  | zero => rfl
  | succ g =>
    rw [fillW, e, h]
    simp
theorem fillW_go {now : Int} {k g : Nat} {M : PM} {x : WM} {st : Int → Int × Int} {who : Int} (hx : M.ws[k]? = some { x with st := st }) (hb : (busyN st : Int) < M.k) (h : bestB M st = true) (hw : bestI M st = who) :
    fillW now k (g + 1) M = ((fillW now k g (M.setSt k (upd st who (1, now)))).1, who :: (fillW now k g (M.setSt k (upd st who (1, now)))).2) := by
  have e : M.stOf k = st := stOf_at hx
  rw [fillW, e, if_pos hb, if_pos h, hw]
theorem FillRel.step {W0 : World} {L : PL} {c : Nat} {now : Int} {k : Nat} {x : WM} {M2 M' : PM} {O1 : List Off} {g : Nat} {st' : Int → Int × Int} {l' : List Int} {vo vo' : Value} {wq w' : World} {who : Int} {gg : Nat} (h : FillRel W0 L c now k x M2 O1 gg M' st' l' vo wq) (hgg : gg = g + 1)
    (hb : (busyN st' : Int) < M'.k) (hbb : bestB M' st' = true) (hw : bestI M' st' = who) (h01 : 0 ≤ who ∧ who < 64) (h0 : (st' who).1 = 0) (hN : NextRel W0 L c now (M'.setSt k (upd st' who (1, now))) (O1 ++ offers x (l' ++ [who])) vo' w') :
    FillRel W0 L c now k x M2 O1 g (M'.setSt k (upd st' who (1, now))) (upd st' who (1, now)) (l' ++ [who]) vo' w' := by
  subst hgg
  exact ⟨hN, setSt_at M' k _ { x with st := st' } h.at_, by rw [h.fill, fillW_go h.at_ hb hbb hw]; simp, by have := h.cnt; simp; omega, by rw [busyN_upd h01 h0]; have := h.busy; omega, h.k8⟩

theorem Tryd.infoSent : (Tryd.prog.info? 40).map (fun i => (i.zero, i.size, i.bytes)) = some (some (.agg (.int .i64 0 :: zeroNote).toArray), 38, 112) := by kernel_rfl
theorem builtSlice1 (sc : List Value) (h : sc.length = 38) : Tryd.prog.builtSlice 40 1 [(0, .agg sc.toArray)] = some sc.toArray := by
  have e : ∀ parts, Tryd.prog.builtSlice 40 1 parts = Instr.fill (fun i => some (i * 38, 38)) (.int .i64 0 :: zeroNote).toArray parts := fun parts => by kernel_rfl
  rw [e]
  have e0 := fill_step (fun i => some (i * 38, 38)) 0 0 38 (.agg sc.toArray) [] [] (.int .i64 0 :: zeroNote) [] rfl (by simp [Value.cells, h]) rfl (by simp [zeroNote])
  simp only [List.append_nil, List.nil_append] at e0
  exact e0.trans rfl
theorem note_set (k : Int) (id : List UInt8) (h : id.length = 32) (n : Int) (bv : Value) : (noteCells k id 0 bv).toArray.setIfInBounds 33 (.int .u64 n) = (noteCells k id n bv).toArray := by
  rw [List.setIfInBounds_toArray]
  congr 1
  unfold noteCells
  rw [List.set_cons_succ, List.set_append_right _ _ (by simp [h])]
  simp [h]
/-- A placer in a world where only a row of notes has turned. -/
theorem PAt.keep {w w' : World} {L : PL} {M : PM} {F : Nat → Prop} (h : PAt w L M) (ho : Only F w w') (hF : ∀ j, F j → ∀ o, w.heap[j]? = some o → ∃ cs fr, o = .cells cs 40 fr) : PAt w' L M := by
  have no : ∀ b cs t fr, w.heap[b]? = some (.cells cs t fr) → t ≠ 40 → ¬ F b := fun b cs t fr hc ht hf => by
    obtain ⟨cs', fr', e⟩ := hF b hf _ hc
    injection e with _ e _
    exact ht e
  have nm : ∀ b es clock, w.heap[b]? = some (.map es clock) → ¬ F b := fun b es clock hc hf => by
    obtain ⟨cs', fr', e⟩ := hF b hf _ hc
    cases e
  have rows : ∀ {base e n : Nat} {v : Value} {xs : List Value}, w.ownsRow base e 1 v n xs → e ≠ 40 → ∀ g, v.ownBlock = some g → ¬ F g := fun {base e n v xs} hr he g hg => by
    rcases hr.2 with ⟨e1, _⟩ | ⟨g', cap, cur, e1, _, c, _⟩
    · rw [e1] at hg; cases hg
    · rw [e1] at hg; cases hg; exact no _ _ _ _ c he
  refine ⟨only_block ho h.block (no _ _ _ _ h.block (by decide)), h.k, row_only h.ps ho (rows h.ps (by decide)), h.nodes, h.sorted, row_only h.lv ho (rows h.lv (by decide)), h.many, h.len, fun i l x h1 h2 => ?_, h.maps⟩
  have hx := h.ws i l x h1 h2
  refine ⟨only_block ho hx.block (no _ _ _ _ hx.block (by decide)), hx.id, row_only hx.bytes ho (rows hx.bytes (by decide)), hx.len, hx.map.kept ho ?_⟩
  obtain ⟨D, ⟨es, clock, hb, _⟩, _⟩ := hx.map
  exact nm _ _ _ hb
theorem NextRel.append {W0 : World} {L : PL} {c : Nat} {now : Int} {M : PM} {outs : List Off} {vo v' : Value} {w5 wa w6 : World} (h : NextRel W0 L c now M outs vo w5) (hb : Below w5.heap.size w5 wa) (o : Off)
    (hown : w6.ownsRow W0.heap.size 40 38 v' (outs.length + 1) ((outs.map offCells).flatten ++ offCells o)) (hg : wa.grownBy w6 vo.ownBlock) : NextRel W0 L c now M (outs ++ [o]) v' w6 := by
  have ha := h.below hb
  have hrow : ∀ j, vo.ownBlock = some j → W0.heap.size ≤ j ∧ ∀ o, wa.heap[j]? = some o → ∃ cs fr, o = .cells cs 40 fr := fun j hj => by
    rcases ha.row.2 with ⟨e1, _⟩ | ⟨g', cap, cur, e1, e2, c, _⟩
    · rw [e1] at hj; cases hj
    · rw [e1] at hj; cases hj
      exact ⟨e2, fun o ho => by rw [c] at ho; exact ⟨_, _, (Option.some.inj ho).symm⟩⟩
  have ho : Only (fun j => vo.ownBlock = some j) wa w6 := Only.of_grown hg (fun k e => e)
  refine ⟨ha.pat.keep ho (fun j hj => (hrow j hj).2), by simpa using hown, ha.only.trans ho (fun j hj e => absurd (hrow j e).1 (by omega)), ha.cell.1, only_block ho ha.cell.2 (fun e => ?_)⟩
  obtain ⟨cs, fr, e2⟩ := (hrow _ e).2 _ ha.cell.2
  injection e2 with _ e3 _
  exact absurd e3 (by decide)

set_option maxHeartbeats 8000000 in
theorem next_any (L : PL) (M : PM) (now : Int) (hn : 0 ≤ now) (hn' : now ≤ 18446744073709551615) (w : World) (h : PAt w L M) :
    Calls Tryd.prog 7 #[.pointer (some ⟨L.pb, 0, none⟩), .int .u64 now] w fun e w' => ∃ v, e = .returned v ∧ PAt w' L (nextTo now M M.ws.length).1 ∧
      w'.ownsRow w.heap.size 40 38 v (nextTo now M M.ws.length).2.length (((nextTo now M M.ws.length).2.map offCells).flatten) ∧ Only (inMaps L) w w' := by
  obtain ⟨ao, cap, hlv, hao⟩ := row_shape h.lv
  have c2 := h.cells.2.2
  rw [hlv] at c2
  have HLV := Lib.hid hlv
  have hmany := h.many
  have hpb := h.lt
  have H := Lib.hid h
  have HLEN := Lib.hid h.len
  have hR0 : Hid (NextRel w L w.heap.size now M [] (.slice none 0 0) (w.alloc (.cells #[.int .u64 now] 33))) :=
    ⟨h.below ((Below.refl _ _).alloc (Nat.le_refl _) _), World.ownsRow_nil _ _ _ _, (Only.refl _ _).alloc _, Nat.le_refl _, heap_alloc_new _ _⟩
  clear hlv h
  generalize hN : L.ws.length = N at *
  have HN := Lib.hid hN
  clear hN
  go_enter Tryd.func7, Tryd.ntmps7
  go_wp2
  go_loopw [5, 20] (fun vo cn wr => ∃ k : Nat, k ≤ N ∧ cn = .int .i64 k ∧ Hid (NextRel w L w.heap.size now (nextTo now M k).1 (nextTo now M k).2 vo wr)) (fun _ cn _ => N - (intOf cn).toNat)
  case atStart => exact ⟨0, Nat.zero_le _, rfl, hR0⟩
  case round =>
    obtain ⟨k, hk, rfl, HR⟩ := hrel
    by_cases hlt : k < N
    · obtain ⟨g, rfl, hg1, hg2⟩ := hao (by omega)
      obtain ⟨l, x, h1, h2, hx⟩ := HR.out.pat.at_ (i := k) (by rw [HN.out]; exact hlt)
      have hp := HR.out.ptr HLV.out HN.out h1
      have hmap := hx.mapCell
      have HX := Lib.hid hx
      have H1 := Lib.hid h1
      have H2 := Lib.hid h2
      have hwb := hx.lt
      have hcl := block_lt_of_cell HR.out.now_cell
      clear h1 h2 hx
      generalize hM1 : (nextTo now M k).1 = M1 at *
      generalize hO1 : (nextTo now M k).2 = O1 at *
      have HM1 := Lib.hid hM1
      have HO1 := Lib.hid hO1
      clear hM1 hO1
      go_wp2_with (go_at_call 20; refine (all_late l.wb l.mb x.st _ (by exact hmap) (by exact hwb) (by exact HX.out.map) now hn hn' w.heap.size (by exact hcl) (by exact HR.out.now_cell)).mono ?_; rintro e w1 ⟨v1, rfl, hrow1, hb1⟩; obtain ⟨ao1, cap1, rfl, hao1⟩ := row_shape hrow1; have HROW1 := Lib.hid hrow1; have HB1 := Lib.hid hb1; clear hrow1 hb1)
      have HRw1 := Lib.hid (HR.out.below HB1.out)
      have hmlt := HX.out.map.lt
      have hO1l : O1.length ≤ 9 * N := by rw [← HO1.out]; exact Nat.le_trans (nextTo_length now M k) (by omega)
      have HM1k : Hid (1 ≤ M1.k ∧ M1.k ≤ 8) := HR.out.pat.k
      have hl1 : (allOf x.st fun x => lateB x.1 x.2 now).length ≤ 64 := Nat.le_trans (List.length_filter_le _ _) (keysSt_length _)
      have HW1 : Hid (∀ j, j < (allOf x.st fun x => lateB x.1 x.2 now).length → 0 ≤ (allOf x.st fun x => lateB x.1 x.2 now).getD j 0 ∧ (allOf x.st fun x => lateB x.1 x.2 now).getD j 0 < 64) := fun j hj => by
        have e : (allOf x.st fun x => lateB x.1 x.2 now).getD j 0 ∈ allOf x.st fun x => lateB x.1 x.2 now := by simp [List.getD, hj]
        exact mem_nodes.1 (List.mem_filter.1 (List.mem_filter.1 e).1).1
      have HFA : Hid (failAll (allOf x.st fun x => lateB x.1 x.2 now) x.st = failLate x.st now) := rfl
      generalize hl1e : (allOf x.st fun x => lateB x.1 x.2 now) = l1 at *
      clear hl1e hcl hp hmap
      have HFS : Hid (∀ j, j < l1.length → failAll (l1.take (j + 1)) x.st = upd (failAll (l1.take j) x.st) (l1.getD j 0) (4, 0)) := fun j hj => failAll_snoc l1 x.st j hj
      have HS0 : Hid (M1.setSt k (failAll (l1.take 0) x.st) = M1) := setSt_self M1 k x H2.out
      go_loopw [9, 28] (fun _ cn wq => ∃ j : Nat, j ≤ l1.length ∧ cn = .int .i64 j ∧ Hid (NextRel w L w.heap.size now (M1.setSt k (failAll (l1.take j) x.st)) O1 u5 wq) ∧ Hid (Only (fun i => i = l.mb) w1 wq)) (fun _ cn _ => l1.length - (intOf cn).toNat)
      case atStart => exact ⟨0, Nat.zero_le _, rfl, Lib.hid (by rw [HS0.out]; exact HRw1.out), Only.refl _ _⟩
      case round =>
        obtain ⟨j, hj, rfl, HQ, HOq⟩ := hrel
        have HXq := Lib.hid (HQ.out.pat.ws k l _ H1.out (setSt_at M1 k _ x H2.out))
        have hwbq := HXq.out.lt
        have hmapq := HXq.out.mapCell
        by_cases hjl : j < l1.length
        · obtain ⟨ga, rfl, ha1, ha2⟩ := hao1 (by omega)
          have hwho := HW1.out j hjl
          have hc := int_cell (row_only HROW1.out HOq.out (fun g e => by
            cases e
            intro e2
            exact absurd (show ga = l.mb from e2) (by omega))) rfl j hjl
          have HF := Lib.hid (HFS.out j hjl)
          generalize l1.getD j 0 = who at hwho hc HF
          go_wp2_with (at_mapUpdate; refine wpList_store_st rfl _ _ _ rfl l.mb _ rfl (by exact HXq.out.map) who hwho rfl (4, 0) rfl (by decide) (by decide) ?_; intro w3 hm3 ho3; have HM3 := Lib.hid hm3; have HO3 := Lib.hid ho3; clear hm3 ho3)
          go_roundw
          case rel => exact ⟨j + 1, by omega, by go_num, Lib.hid (by have e := HQ.out.turn H1.out HM3.out HO3.out; rw [setSt_setSt, ← HF.out] at e; exact e), Lib.hid (HOq.out.trans HO3.out (fun _ _ h => h))⟩
          case measure => simp [intOf]; omega
        · obtain rfl : j = l1.length := by omega
          have HT : Hid (failAll (l1.take l1.length) x.st = failLate x.st now) := by rw [List.take_length]; exact HFA.out
          rw [HT.out] at HQ HXq
          have HF0 : Hid (FillRel w L w.heap.size now k x (M1.setSt k (failLate x.st now)) O1 9 (M1.setSt k (failLate x.st now)) (failLate x.st now) [] u5 wr) :=
            ⟨by have e := HQ.out; simpa [offers] using e, setSt_at M1 k _ x H2.out, rfl, by simp, by omega, HM1k.out⟩
          clear HRw1 HROW1 hao1 HFS HW1 HS0 HOq HXq hwbq hmapq hjl hj
          go_wp2
          go_loopg [5] 9 (fun gg vo wq => ∃ M' st' l', Hid (FillRel w L w.heap.size now k x (M1.setSt k (failLate x.st now)) O1 gg M' st' l' vo wq))
          case atStart => exact ⟨_, _, _, HF0⟩
          case round =>
            obtain ⟨M', st', l', HFR⟩ := hrel
            have HNR := Lib.hid HFR.out.rel
            have HK : wr.drew.cell? ⟨L.pb, 0, none⟩ = some (.int .i64 M'.k) ∧ Hid (NextRel w L w.heap.size now M' (O1 ++ offers x l') u5 wr.drew) := keep_next HNR ((Below.refl _ _).drew)
            have HBU := fun wr' (h : Hid (NextRel w L w.heap.size now M' (O1 ++ offers x l') u5 wr')) => busy_rel h H1.out HFR.out.at_
            by_cases hbz : (busyN st' : Int) < M'.k
            · have hbz' : decide ((busyN st' : Int) < M'.k) = true := decide_eq_true hbz
              go_wp2
              go_region_held3 (fun w' => w'.cell? ⟨L.pb, 0, none⟩ = some (.int .i64 M'.k) ∧ Hid (NextRel w L w.heap.size now M' (O1 ++ offers x l') u5 w')) (first | exact HK | assumption | exact keep_next (And.right (by assumption)) (by assumption))
                (first | (go_at_call 20; refine (HBU _ (And.right (by assumption))).mono ?_; rintro e w1 ⟨ao2, cap2, rfl, hb2⟩))
              rename_i hheld
              obtain ⟨_, HN1⟩ := hheld
              have hbs := best_rel HN1.out H1.out HFR.out.at_
              have HBS := Lib.hid hbs
              have hgk : 1 ≤ gk := by
                have h1 := HFR.out.busy
                have h2 := HFR.out.k8
                omega
              have HBZ := Lib.hid hbz
              clear hbs hbz hbz' hb2
              have HM' := Lib.hid HFR.out.at_
              have HX' := Lib.hid (fun wq (h : NextRel w L w.heap.size now M' (O1 ++ offers x l') u5 wq) => h.pat.ws k l _ H1.out HM'.out)
              by_cases hbb : bestB M' st' = true
              · have HBB := Lib.hid hbb
                have hfree := bestI_free hbb
                have hwho := HN1.out.pat.nodes _ hfree.1
                have HFREE := Lib.hid hfree.2
                clear hbb hfree
                generalize hbi : bestI M' st' = who at *
                have HBI := Lib.hid hbi
                clear hbi
                go_wp2_with (go_at_call 24; refine HBS.out.mono ?_; rintro e w2 ⟨rfl, hb3⟩; rw [HBB.out]; have HN2 := Lib.hid (HN1.out.below hb3); clear hb3)
                have hmap2 := (HX'.out _ HN2.out).mapCell
                have hnow2 := HN2.out.now_cell
                go_still_tail 7, (by kernel_rfl)
                change wpList _ _ _ _ _ w2.drew
                have HN3 := Lib.hid (HN2.out.below ((Below.refl _ _).drew))
                clear hmap2 hnow2
                generalize w2.drew = w3 at *
                have HX2 := Lib.hid (fun wq (h : NextRel w L w.heap.size now (M'.setSt k (upd st' who (1, now))) (O1 ++ offers x l') u5 wq) => h.pat.ws k l _ H1.out (setSt_at M' k _ { x with st := st' } HM'.out))
                have HID : Hid (x.id.length = 32) := HX.out.id
                obtain ⟨aob, capb, hbv, _⟩ := row_shape HX.out.bytes
                have HBV := Lib.hid hbv
                have hbl := HX.out.len
                have HSZ : Hid ((Tryd.prog.info? 38).map (·.size) = some (noteCells 1 x.id 0 (.slice none 0 0)).toArray.size) := by show _ = _; rw [Tryd.sizeNote]; simp [length_noteCells _ _ _ _ HID.out]
                have HNS : Hid (zeroNote.toArray.size = (noteCells 1 x.id 0 (.slice none 0 0)).toArray.size) := by show _ = _; simp [length_noteCells _ _ _ _ HID.out]; rfl
                have HOC := Lib.hid (oneCell_note 1 x.id 0)
                have hn33 : (noteCells 1 x.id 0 (.slice none 0 0)).toArray[33]? = some (.int .u64 0) := by have e := HID.out; simp [noteCells, cellsOf, e]
                clear hbv
                generalize hnc : (noteCells 1 x.id 0 (.slice none 0 0)).toArray = nc at *
                have HNC := Lib.hid hnc
                have HNC2 : Hid (nc.setIfInBounds 33 (.int .u64 (x.bytes.length : Int)) = (noteCells 1 x.id x.bytes.length (.slice none 0 0)).toArray) := by rw [← HNC.out]; exact note_set 1 x.id HID.out _ _
                have hsc : (sentCells who (noteCells 1 x.id x.bytes.length (.slice none 0 0))).length = 38 := by simp [sentCells, length_noteCells _ _ _ _ HID.out]
                have HSB := Lib.hid (builtSent2 who (noteCells 1 x.id x.bytes.length (.slice none 0 0)) (length_noteCells _ _ _ _ HID.out))
                have HSS := Lib.hid (builtSlice1 _ hsc)
                have HSC : Hid (sentCells who (noteCells 1 x.id x.bytes.length (.slice none 0 0)) = offCells ⟨who, x.id, x.bytes.length⟩) := rfl
                have HSO : Hid (∀ u ∈ sentCells who (noteCells 1 x.id x.bytes.length (.slice none 0 0)), u.oneCell' = true) := fun u hu => by
                  rcases List.mem_cons.1 hu with rfl | hu
                  · rfl
                  · have := oneCell_note 1 x.id x.bytes.length
                    simp only [List.all_toArray, List.all_eq_true] at this
                    exact this u hu
                have HSZ2 : Hid ((Tryd.prog.info? 38).map (·.size) = some (noteCells 1 x.id x.bytes.length (.slice none 0 0)).toArray.size) := by show _ = _; rw [Tryd.sizeNote]; simp [length_noteCells _ _ _ _ HID.out]
                obtain ⟨fs, hfs⟩ := Tryd.undNote
                have HFSs := Lib.hid hfs
                obtain ⟨i1, hi1, hz10, hz11, hz12⟩ := info_parts Tryd.infoSent
                have hol : (O1 ++ offers x l').length ≤ 9 * N + 9 := by have := HFR.out.cnt; simp only [List.length_append, offers, List.length_map]; omega
                clear hnc hfs
                generalize (noteCells 1 x.id x.bytes.length (.slice none 0 0)).toArray = nc2 at *
                generalize sentCells who (noteCells 1 x.id x.bytes.length (.slice none 0 0)) = sc at *
                go_upto_region 18 with (first
                  | (at_mapUpdate; refine wpList_store_st rfl _ _ _ rfl l.mb _ rfl (by exact (HX'.out _ HN3.out).map) who hwho rfl (1, now) rfl (show (1 : Int) ≠ 0 by decide) ⟨hn, hn'⟩ ?_; intro w4 hm4 ho4; have HN4 := Lib.hid (HN3.out.turn H1.out hm4 ho4); clear hm4 ho4)
                  | (go_at_call 25; refine (note_any l.wb 1 x.id HID.out _ (by exact (HX2.out _ HN4.out).idCells) (by exact (HX2.out _ HN4.out).lt)).mono ?_; rintro e w5 ⟨rfl, hb5⟩; rw [HNC.out]; have HN5 := Lib.hid (HN4.out.below hb5); clear hb5; have hwb5 := (HX2.out _ HN5.out).lt; have hbc5 := (HX2.out _ HN5.out).bytesCell; rw [HBV.out] at hbc5)
                  | ((with_reducible refine wpList_store_rowTo rfl 38 _ _ rfl rfl w5.heap.size nc ?_ ?_ 38 zeroNote.toArray ?_ HSZ.out HNS.out HOC.out ?_); (rfl); (rfl); (exact heap_alloc_new _ _); (show wpList _ _ _ _ _ (World.setRow (w5.alloc (.cells zeroNote.toArray 38)) w5.heap.size nc)); (rw [setRow_alloc])))
                go_wp2_with (first
                  | ((refine wpList_load_row rfl 38 _ rfl w5.heap.size ?_ 38 nc2 (0, 0) _ ?_ HFSs.out rfl HSZ2.out ?_); (rfl); (rw [HNC2.out]; exact heap_alloc_new _ _))
                  | ((with_reducible refine wpList_buildTo rfl 40 _ rfl _ rfl sc.toArray ?_ ?_); (simp only [List.map_toArray, List.map_cons, List.map_nil]; exact HSB.out))
                  | ((refine Great.wpList_buildSliceTo rfl 34 40 1 _ rfl _ rfl _ rfl Tryd.underlying34 sc.toArray ?_ ?_); (simp only [List.map_toArray, List.map_cons, List.map_nil]; exact HSS.out))
                  | (at_builtin; refine wpList_append_own _ rfl (.tmp 71) (.tmp 75) 34 rfl w.heap.size 40 i1 _ 38 112 Tryd.underlying34 hi1 hz10 hz11 hz12 rfl (by decide) u5 _ _ rfl (HN5.out.row.alloc _ |>.alloc _) ⟨w5.heap.size + 1, 0, none⟩ 1 1 sc ?p1 hsc ?p2 HSO.out ?p3 ?p4 ?p5 ?p6))
                case p2 =>
                  intro j u hj
                  have h0 : ((w5.alloc (.cells (nc.setIfInBounds 33 (.int .u64 (x.bytes.length : Int))) 38)).alloc (.cells sc.toArray 40)).heap[w5.heap.size + 1]? = some (.cells sc.toArray 40 (0, 0)) := heap_alloc2_new _ _ _
                  rw [Addr.add_mid, Nat.zero_add, cell_of_row _ _ _ _ _ _ h0]
                  simpa using hj
                case p3 => unfold maxLen; omega
                case p4 => omega
                case p5 => have := HN5.out.only.size; simp only [World.size_alloc]; omega
                case p6 =>
                  intro v' w6 hown hgrow _
                  rw [HSC.out] at hown
                  have hbb5 : Below w5.heap.size w5 ((w5.alloc (.cells (nc.setIfInBounds 33 (.int .u64 (x.bytes.length : Int))) 38)).alloc (.cells sc.toArray 40)) := ((Below.refl _ _).alloc (Nat.le_refl _) _).alloc (by rw [World.size_alloc]; omega) _
                  have HG : World.grownBy ((w5.alloc (.cells (nc.setIfInBounds 33 (.int .u64 (x.bytes.length : Int))) 38)).alloc (.cells sc.toArray 40)) w6 u5.ownBlock := hgrow
                  have hown2 : w6.ownsRow w.heap.size 40 38 v' ((O1 ++ offers x l').length + 1) (((O1 ++ offers x l').map offCells).flatten ++ offCells ⟨who, x.id, x.bytes.length⟩) := by simpa using hown
                  have HN6 := Lib.hid (HN5.out.append hbb5 ⟨who, x.id, x.bytes.length⟩ hown2 HG)
                  clear hown2
                  clear HG hbb5
                  clear hown hgrow
                  have HOE : Hid (O1 ++ offers x l' ++ [⟨who, x.id, x.bytes.length⟩] = O1 ++ offers x (l' ++ [who])) := by show _ = _; simp [offers]
                  have HNF := Lib.hid (HFR.out.step (g := gk - 1) (by omega) HBZ.out HBB.out HBI.out hwho HFREE.out (by have e := HN6.out; rw [HOE.out] at e; exact e))
                  go_wp2
                  go_roundg (gk - 1)
                  case rel => exact ⟨_, _, _, HNF⟩
                  case measure => omega
              · have HBB := Lib.hid (Bool.eq_false_iff.2 hbb)
                clear hbb
                go_wp2_with (go_at_call 24; refine HBS.out.mono ?_; rintro e w2 ⟨rfl, hb3⟩; rw [HBB.out]; have HN2 := Lib.hid (HN1.out.below hb3); clear hb3)
                exact ⟨⟨k + 1, by omega, by go_num, Lib.hid (fill_end HM1.out HO1.out H2.out HFR.out (fillW_stop2 HM'.out HBB.out) HN2.out)⟩, by simp [intOf]; omega⟩
            · have hbz' : decide ((busyN st' : Int) < M'.k) = false := decide_eq_false hbz
              go_wp2
              go_region_held3 (fun w' => w'.cell? ⟨L.pb, 0, none⟩ = some (.int .i64 M'.k) ∧ Hid (NextRel w L w.heap.size now M' (O1 ++ offers x l') u5 w')) (first | exact HK | assumption | exact keep_next (And.right (by assumption)) (by assumption))
                (first | (go_at_call 20; refine (HBU _ (And.right (by assumption))).mono ?_; rintro e w1 ⟨ao2, cap2, rfl, hb2⟩))
              rename_i hheld
              obtain ⟨_, HN1⟩ := hheld
              have HBZ := Lib.hid hbz
              clear hbz hb2
              go_wp2
              exact ⟨⟨k + 1, by omega, by go_num, Lib.hid (fill_end HM1.out HO1.out H2.out HFR.out (fillW_stop1 HFR.out.at_ (Int.not_lt.2 HBZ.out)) HN1.out)⟩, by simp [intOf]; omega⟩
    · obtain rfl : k = N := by omega
      have HE : Hid (k = M.ws.length) := HLEN.out
      go_wp2
      go_ret
      exact ⟨u5, rfl, by have e := HR.out.pat; rw [HE.out] at e; exact e, by have e := HR.out.row; rw [HE.out] at e; exact e, HR.out.only⟩
end Go.Proofs.YtpogpfabnkgkfaaDoor
