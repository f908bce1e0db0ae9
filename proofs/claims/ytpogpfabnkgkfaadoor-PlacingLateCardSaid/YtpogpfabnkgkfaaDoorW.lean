/- The document's example (awake), walked: once packs.Id is reckoned. -/
import Derived.Test.YtpogpfabnkgkfaaDoorV
import Derived.Lib.SlBytesConst
namespace Go.Proofs.YtpogpfabnkgkfaaDoor
open Go.RowKit Go.BigFrame Go.Maps Go.Shelf Go.Sort
set_option maxRecDepth 100000

/-! The document's example, over the model. -/
def none0 : Int → Int × Int := fun _ => (0, 0)
theorem find_one (k : Int) (ps : List Int) (y b : List UInt8) (st : Int → Int × Int) : findI ⟨k, ps, [⟨y, b, st⟩]⟩ y = 0 := by simp [findI, PM.ids, idxOf]
theorem find_no (k : Int) (ps : List Int) (y : List UInt8) : findI ⟨k, ps, []⟩ y = -1 := rfl
theorem next_one (y b : List UInt8) : nextTo 1 ⟨2, [1, 2, 3], [⟨y, b, none0⟩]⟩ 1 = (⟨2, [1, 2, 3], [⟨y, b, upd (upd none0 1 (1, 1)) 2 (1, 1)⟩]⟩, [⟨1, y, b.length⟩, ⟨2, y, b.length⟩]) := by kernel_rfl
theorem hold_one : allOf (upd (upd (upd (upd none0 1 (1, 1)) 2 (1, 1)) 1 (2, 2)) 1 (3, 0)) (fun x => x.1 == 3) = [1] := by kernel_rfl

def b4 : List UInt8 := [112, 97, 99, 107]
def mA (y b : List UInt8) : PM := ⟨2, [1, 2, 3], [⟨y, b, none0⟩]⟩
def mB (y b : List UInt8) : PM := ⟨2, [1, 2, 3], [⟨y, b, upd (upd none0 1 (1, 1)) 2 (1, 1)⟩]⟩
def mC (y b : List UInt8) : PM := ⟨2, [1, 2, 3], [⟨y, b, upd (upd (upd none0 1 (1, 1)) 2 (1, 1)) 1 (2, 2)⟩]⟩
def mD (y b : List UInt8) : PM := ⟨2, [1, 2, 3], [⟨y, b, upd (upd (upd (upd none0 1 (1, 1)) 2 (1, 1)) 1 (2, 2)) 1 (3, 0)⟩]⟩
theorem done_one (y b : List UInt8) : doneB (mD y b) y = false := by
  have e : findI (mD y b) y = 0 := find_one _ _ _ _ _
  have h : holdersOf (mD y b) y = [1] := by
    unfold holdersOf
    rw [e, if_neg (by decide)]
    exact hold_one
  unfold doneB
  rw [e, h]
  rfl
theorem holders_one (y b : List UInt8) : holdersOf (mD y b) y = [1] := by
  have e : findI (mD y b) y = 0 := find_one _ _ _ _ _
  unfold holdersOf
  rw [e, if_neg (by decide)]
  exact hold_one
def outsA (y : List UInt8) : List Value := offCells ⟨1, y, 4⟩ ++ offCells ⟨2, y, 4⟩
theorem outsA_at (y : List UInt8) (hy : y.length = 32) : (outsA y)[0]? = some (.int .i64 1) ∧ (outsA y)[1]? = some (.int .i64 1) ∧ (outsA y)[34]? = some (.int .u64 4) ∧ (outsA y)[38]? = some (.int .i64 2) := by
  refine ⟨rfl, rfl, ?_, ?_⟩ <;> simp [outsA, offCells, sentCells, noteCells, cellsOf, hy, List.getElem?_append]

theorem aw_new (w : World) : Calls Tryd.prog 5 #[.int .i64 2, .slice (some ⟨w.heap.size, 0, none⟩) 3 3] (w.alloc (.cells #[.int .i64 1, .int .i64 2, .int .i64 3] 3)) fun e w' => ∃ L : PL, e = .returned (.tuple #[.pointer (some ⟨L.pb, 0, none⟩), .int .i64 0]) ∧ PAt w' L ⟨2, [1, 2, 3], []⟩ ∧ L.ws = [] ∧ Since w.heap.size L ∧ Below w.heap.size w w' := by
  refine (new_any 2 [1, 2, 3] w.heap.size 0 3 _ ⟨by decide, by decide⟩ (by decide) (by decide) (by decide) (fun j hj => ?_) (by rw [World.size_alloc]; omega)).mono ?_
  · rw [cell_of_row _ _ _ _ _ _ (heap_alloc_new _ _)]
    have : j = 0 ∨ j = 1 ∨ j = 2 := by simp at hj; omega
    rcases this with rfl | rfl | rfl <;> rfl
  · rintro e w' ⟨L, h1, h2, h3, h4, h5⟩
    have hb : Below w.heap.size w (w.alloc (.cells #[.int .i64 1, .int .i64 2, .int .i64 3] 3)) := (Below.refl _ _).alloc (Nat.le_refl _) _
    exact ⟨L, h1, h2, h3, ⟨Nat.le_trans hb.size h4.1, fun g e => Nat.le_trans hb.size (h4.2.1 g e), fun l e => Nat.le_trans hb.size (h4.2.2 l e)⟩, hb.trans (h5.mono hb.size)⟩

structure AwAt (w0 w : World) (L : PL) (M : PM) : Prop where
  pat : PAt w L M
  since : Since w0.heap.size L
  below : Below w0.heap.size w0 w
theorem AwAt.step {w0 w w' : World} {L : PL} {M : PM} (h : AwAt w0 w L M) (hb : Below w.heap.size w w') : AwAt w0 w' L M := ⟨h.pat.below hb, h.since, h.below.trans (hb.mono h.below.size)⟩
theorem AwAt.turn {w0 w w' : World} {L : PL} {M M' : PM} (h : AwAt w0 w L M) (hp : PAt w' L M') (ho : Only (inMaps L) w w') : AwAt w0 w' L M' :=
  ⟨hp, h.since, ⟨ho.os.trans h.below.os, ho.tape.trans h.below.tape, ho.output.trans h.below.output, Nat.le_trans h.below.size ho.size, fun k hk => by
    rw [ho.block k (Nat.lt_of_lt_of_le hk h.below.size) (by rintro ⟨l, hl, e⟩; have := h.since.2.2 l hl; omega)]
    exact h.below.block k hk⟩⟩
theorem row_keeps {w w' : World} {L : PL} {M : PM} {base e size n : Nat} {v : Value} {xs : List Value} (h : PAt w L M) (hr : w.ownsRow base e size v n xs) (ho : Only (inMaps L) w w') : w'.ownsRow base e size v n xs :=
  row_only hr ho fun g' hg => by
    rcases hr.2 with ⟨e1, _⟩ | ⟨g2, cap2, cur, e1, _, c, _⟩
    · rw [e1] at hg; cases hg
    · rw [e1] at hg; cases hg; exact h.notMap c

theorem aw_want (G : World → Prop) (f : List UInt8 → List UInt8) (hf : IdSays G f) (w0 w : World) (hG : G w0) (k : Int) (ps : List Int) (L : PL) (b : List UInt8) (bb o cap : Nat) (h : AwAt w0 w L ⟨k, ps, []⟩) (hL : L.ws = []) (hb0 : 1 ≤ b.length) (hb1 : b.length ≤ 1048576)
    (hs : ∀ j u, (cellsOf b)[j]? = some u → w.cell? ⟨bb, o + j, none⟩ = some u) (hbb : bb < w.heap.size) (hcap : b.length ≤ cap) :
    Calls Tryd.prog 6 #[.pointer (some ⟨L.pb, 0, none⟩), .slice (some ⟨bb, o, none⟩) b.length cap] w fun e w' => ∃ L' : PL, e = .returned (.tuple #[.agg (cellsOf (f b)).toArray, .int .i64 0]) ∧ AwAt w0 w' L' ⟨k, ps, [⟨f b, b, none0⟩]⟩ ∧ L'.pb = L.pb := by
  refine (want_new G f hf L ⟨k, ps, []⟩ bb o cap b hb0 hb1 w (hf.2.1 _ _ hG h.below) h.pat hs hbb hcap (by rw [find_no]; decide) (by rw [hL]; decide)).mono ?_
  rintro e w' ⟨L', h1, h2, h3, h4, h5⟩
  exact ⟨L', h1, ⟨h2, h4 _ h.since h.below.size, h.since.want h5 h.below (Nat.le_refl _)⟩, h3⟩

theorem aw_next (w0 w : World) (L : PL) (y b : List UInt8) (hb : b.length = 4) (h : AwAt w0 w L (mA y b)) :
    Calls Tryd.prog 7 #[.pointer (some ⟨L.pb, 0, none⟩), .int .u64 1] w fun e w' => ∃ g cap, e = .returned (.slice (some ⟨g, 0, none⟩) 2 cap) ∧ AwAt w0 w' L (mB y b) ∧ w'.ownsRow 0 40 38 (.slice (some ⟨g, 0, none⟩) 2 cap) 2 (outsA y) ∧ Only (inMaps L) w w' := by
  refine (next_any L (mA y b) 1 (by decide) (by decide) w h.pat).mono ?_
  rintro e w' ⟨v, h1, h2, h3, h4⟩
  have e1 : nextTo 1 (mA y b) (mA y b).ws.length = (mB y b, [⟨1, y, b.length⟩, ⟨2, y, b.length⟩]) := next_one y b
  rw [e1] at h2 h3
  rw [hb] at h3
  obtain ⟨ao, cap, rfl, hao⟩ := row_shape h3
  obtain ⟨g, rfl, _, _⟩ := hao (by simp)
  exact ⟨g, cap, h1, h.turn h2 h4, row_base (by simpa [outsA] using h3) (Nat.zero_le _), h4⟩

def nin (k : Int) (y : List UInt8) : NIn := ⟨k, y, 0, 0, .slice none 0 0, .slice none 0 0⟩
theorem wpList_load_rowG {P : Program} {ops : Array Oper} {rest : List Oper} {o : Oper} {a : Act} {w : World} {Q : Exit → Act → World → Prop} (hw : Region.wanted o (yielded ops a.tmps) = true) (ty : TypeId) (x : Operand) (ho : o.op = .load ty x)
    (g : Nat) (hx : a.eval x = .pointer (some ⟨g, 0, none⟩)) (t : TypeId) (cs : Array Value) (fr : Nat × Nat) (d : TypeDesc) (hg : w.heap[g]? = some (.cells cs t fr))
    (hu : P.underlying ty = some d) (hd : (match d with | .struct _ | .array _ _ => true | _ => false) = true) (hi : (P.info? ty).map (·.size) = some cs.size)
    (h : wpList P ops Q rest (a.put o.dst (.agg cs)) w) : wpList P ops Q (o :: rest) a w :=
  wpList_step fun _ hK => by rw [if_pos hw]; exact wp_load_row ty x ho g hx t cs fr d hg hu hd hi (hK _ _ h)
theorem aw_accept (w0 w : World) (L : PL) (y b : List UInt8) (hy : y.length = 32) (h : AwAt w0 w L (mB y b)) :
    Calls Tryd.prog 9 #[.pointer (some ⟨L.pb, 0, none⟩), .int .i64 1, .agg (nin 2 y).cells.toArray, .int .u64 2] w fun e w' => ∃ g bv, e = .returned (.slice (some ⟨g, 0, none⟩) 1 1) ∧
      w'.heap[g]? = some (.cells (sentCells 1 (noteCells 4 y 0 bv)).toArray 40 (0, 0)) ∧ AwAt w0 w' L (mC y b) ∧ Only (inMaps L) w w' := by
  obtain ⟨l, x, h1, h2, hx⟩ := h.pat.at_ (i := 0) (by rw [h.pat.len]; exact Nat.zero_lt_one)
  have ex : x = ⟨y, b, upd (upd none0 1 (1, 1)) 2 (1, 1)⟩ := (Option.some.inj h2).symm
  subst ex
  refine (handle_accept L (mB y b) 0 l _ 1 2 1 1 (nin 2 y) hy rfl ⟨by decide, by decide⟩ w h.pat (find_one _ _ _ _ _) h1 h2 (by show (1 : Int) ∈ [1, 2, 3]; decide) (by show [1, 2, 3].length ≤ 1000; decide) rfl (Or.inl rfl)).mono ?_
  rintro e w' ⟨g, bv, e1, e2, e3, e4, e5, e6⟩
  exact ⟨g, bv, e1, e2, h.turn e5 e6, e6⟩
theorem aw_receipt (w0 w : World) (L : PL) (y b : List UInt8) (hy : y.length = 32) (h : AwAt w0 w L (mC y b)) :
    Calls Tryd.prog 9 #[.pointer (some ⟨L.pb, 0, none⟩), .int .i64 1, .agg (nin 5 y).cells.toArray, .int .u64 3] w fun e w' => e = .returned (.slice none 0 0) ∧ AwAt w0 w' L (mD y b) ∧ Only (inMaps L) w w' := by
  obtain ⟨l, x, h1, h2, hx⟩ := h.pat.at_ (i := 0) (by rw [h.pat.len]; exact Nat.zero_lt_one)
  have ex : x = ⟨y, b, upd (upd (upd none0 1 (1, 1)) 2 (1, 1)) 1 (2, 2)⟩ := (Option.some.inj h2).symm
  subst ex
  refine (handle_receipt L (mC y b) 0 l _ 1 3 2 2 (nin 5 y) hy rfl w h.pat (find_one _ _ _ _ _) h1 h2 (by show (1 : Int) ∈ [1, 2, 3]; decide) (by show [1, 2, 3].length ≤ 1000; decide) rfl (Or.inr (Or.inl rfl))).mono ?_
  rintro e w' ⟨e1, e5, e6⟩
  exact ⟨e1, h.turn e5 e6, e6⟩

theorem aw_hold (w0 w : World) (L : PL) (y b : List UInt8) (hy : y.length = 32) (h : AwAt w0 w L (mD y b)) :
    Calls Tryd.prog 14 #[.pointer (some ⟨L.pb, 0, none⟩), .agg (cellsOf y).toArray] w fun e w' => ∃ g cap, e = .returned (.slice (some ⟨g, 0, none⟩) 1 cap) ∧ w'.cell? ⟨g, 0, none⟩ = some (.int .i64 1) ∧ Below w.heap.size w w' := by
  refine (holders_any L (mD y b) y hy w h.pat).mono ?_
  rintro e w' ⟨v, h1, h2, h3⟩
  rw [holders_one] at h2
  obtain ⟨ao, cap, rfl, hao⟩ := row_shape h2
  obtain ⟨g, rfl, _, _⟩ := hao (by simp)
  exact ⟨g, cap, h1, (row_cells h2 (by simp)).1 0 _ rfl, h3⟩
structure AwB (w0 w : World) (L : PL) (M : PM) (B : Nat) (y : List UInt8) : Prop where
  at_ : AwAt w0 w L M
  id : w.heap[B]? = some (.cells (cellsOf y).toArray 30 (0, 0))
theorem AwB.step {w0 w w' : World} {L : PL} {M : PM} {B : Nat} {y : List UInt8} (h : AwB w0 w L M B y) (hb : Below w.heap.size w w') : AwB w0 w' L M B y := ⟨h.at_.step hb, below_block hb h.id⟩
theorem AwB.turn {w0 w w' : World} {L : PL} {M M' : PM} {B : Nat} {y : List UInt8} (h : AwB w0 w L M B y) (hp : PAt w' L M') (ho : Only (inMaps L) w w') : AwB w0 w' L M' B y := ⟨h.at_.turn hp ho, only_block ho h.id (h.at_.pat.notMap h.id)⟩
theorem offers_cells {w : World} {g cap : Nat} {y : List UInt8} (hy : y.length = 32) (h : w.ownsRow 0 40 38 (.slice (some ⟨g, 0, none⟩) 2 cap) 2 (outsA y)) :
    w.cell? ⟨g, 0, none⟩ = some (.int .i64 1) ∧ w.cell? ⟨g, 1, none⟩ = some (.int .i64 1) ∧ w.cell? ⟨g, 34, none⟩ = some (.int .u64 4) ∧ w.cell? ⟨g, 38, none⟩ = some (.int .i64 2) := by
  obtain ⟨o0, o1, o2, o3⟩ := outsA_at y hy
  have c := fun j u (hj : (outsA y)[j]? = some u) => h.cells (g := g) rfl j u hj
  refine ⟨?_, ?_, ?_, ?_⟩
  · have e := c _ _ o0; rwa [Addr.add_mid, Nat.zero_add] at e
  · have e := c _ _ o1; rwa [Addr.add_mid, Nat.zero_add] at e
  · have e := c _ _ o2; rwa [Addr.add_mid, Nat.zero_add] at e
  · have e := c _ _ o3; rwa [Addr.add_mid, Nat.zero_add] at e

set_option maxHeartbeats 4000000 in
theorem awake_any (G : World → Prop) (f : List UInt8 → List UInt8) (hf : IdSays G f) (w : World) (hG : G w) : Calls Tryd.prog 4 #[] w fun e w' => e = .returned (.bool true) ∧ Below w.heap.size w w' := by
  have HY : Hid ((f b4).length = 32) := hf.1 b4
  have HX : Hid ((Tryd.prog.info? 30).map (·.size) = some (cellsOf (f b4)).toArray.size) := by show _ = _; rw [Tryd.sizeId]; simp [HY.out]
  have HZ : Hid (zeroId.toArray.size = (cellsOf (f b4)).toArray.size) := by show _ = _; simp [HY.out, zeroId]
  have HO : Hid (((cellsOf (f b4)).toArray).all (·.oneCell') = true) := by
    show _ = _
    simp only [List.all_toArray, List.all_eq_true]
    exact oneCell_cellsOf (f b4)
  have HB2 : Hid (Tryd.prog.built 38 [(0, .int .i64 2), (1, .agg (cellsOf (f b4)).toArray)] = some (nin 2 (f b4)).cells.toArray) := builtNote2 2 (f b4) HY.out
  have HB5 : Hid (Tryd.prog.built 38 [(0, .int .i64 5), (1, .agg (cellsOf (f b4)).toArray)] = some (nin 5 (f b4)).cells.toArray) := builtNote2 5 (f b4) HY.out
  have HN := Lib.hid (aw_new w)
  have HOA := Lib.hid (outsA_at (f b4) HY.out)
  have HWN : Hid (∀ w1 L, AwAt w w1 L ⟨2, [1, 2, 3], []⟩ → L.ws = [] → Calls Tryd.prog 6 #[.pointer (some ⟨L.pb, 0, none⟩), .slice (some ⟨w1.heap.size, 0, none⟩) 4 4] (w1.alloc (.cells #[.int .u8 112, .int .u8 97, .int .u8 99, .int .u8 107] 5 (4, 5))) fun e w' => ∃ L' : PL, e = .returned (.tuple #[.agg (cellsOf (f b4)).toArray, .int .i64 0]) ∧ AwAt w w' L' (mA (f b4) b4) ∧ L'.pb = L.pb) := fun w1 L h hL => by
    refine aw_want G f hf w _ hG 2 [1, 2, 3] L b4 w1.heap.size 0 4 (h.step ((Below.refl _ _).alloc (Nat.le_refl _) _)) hL (by decide) (by decide) (fun j u hj => ?_) (by rw [World.size_alloc]; omega) (by decide)
    rw [cell_of_row _ _ _ _ _ _ (heap_alloc_new _ _)]
    rw [Nat.zero_add]
    have e : cellsOf b4 = [.int .u8 112, .int .u8 97, .int .u8 99, .int .u8 107] := by kernel_rfl
    rw [e] at hj
    simpa using hj
  have hcv := fun (w : World) (C : Array Value) (n c : Nat) => Lib.run_convert_bytes_const (P := Tryd.prog) w 22 5 C n c Tryd.underlying22 Tryd.und5
  have HACC := Lib.hid (fun wq L (h : AwAt w wq L (mB (f b4) b4)) => aw_accept w wq L (f b4) b4 HY.out h)
  have HREC := Lib.hid (fun wq L (h : AwAt w wq L (mC (f b4) b4)) => aw_receipt w wq L (f b4) b4 HY.out h)
  have HHOL := Lib.hid (fun wq L (h : AwAt w wq L (mD (f b4) b4)) => aw_hold w wq L (f b4) b4 HY.out h)
  have HDON := Lib.hid (fun wq L (h : AwAt w wq L (mD (f b4) b4)) => done_any L (mD (f b4) b4) (f b4) HY.out wq h.pat)
  rw [done_one] at HDON
  have HNX := Lib.hid (fun wq L (h : AwAt w wq L (mA (f b4) b4)) => aw_next w wq L (f b4) b4 rfl h)
  generalize hy : f b4 = y at *
  clear hy
  generalize (nin 2 y).cells.toArray = n2 at *
  generalize (nin 5 y).cells.toArray = n5 at *
  go_enter Tryd.func4, Tryd.ntmps4
  go_wp2_with (first
    | (go_at_call 5; refine HN.out.mono ?_; rintro e w1 ⟨L, rfl, hp, hl, hs, hb⟩; have H1 : Hid (AwAt w w1 L ⟨2, [1, 2, 3], []⟩) := ⟨hp, hs, hb⟩; have HL := Lib.hid hl; clear hp hl hs hb)
    | (go_at_call 6; refine (HWN.out _ _ H1.out HL.out).mono ?_; rintro e w2 ⟨L', rfl, hp, hl⟩; have H2 : Hid (AwB w (w2.alloc (.cells (cellsOf y).toArray 30)) L' (mA y b4) w2.heap.size y) := ⟨hp.step ((Below.refl _ _).alloc (Nat.le_refl _) _), heap_alloc_new _ _⟩; rw [← hl]; clear hp hl)
    | ((with_reducible refine wpList_store_rowTo rfl 30 _ _ rfl rfl w2.heap.size (cellsOf y).toArray ?_ ?_ 30 zeroId.toArray ?_ HX.out HZ.out HO.out ?_); (rfl); (rfl); (exact heap_alloc_new _ _); (show wpList _ _ _ _ _ (World.setRow (w2.alloc (.cells zeroId.toArray 30)) w2.heap.size (cellsOf y).toArray)); (rw [setRow_alloc]))
    | (go_at_call 7; refine (HNX.out _ _ H2.out.at_).mono ?_; rintro e w3 ⟨g3, cap3, rfl, hp, hr, ho⟩; have H3 := Lib.hid (H2.out.turn hp.pat ho); have HR3 := Lib.hid hr; clear hp hr ho)
    | (go_at_call_of 9 n2; refine (HACC.out _ _ H3.out.at_).mono ?_; rintro e w4 ⟨g4, bv, rfl, hs, hp, ho⟩; have H4 := Lib.hid (H3.out.turn hp.pat ho); have HR4 := Lib.hid (row_keeps H3.out.at_.pat HR3.out ho); have HS4 := Lib.hid hs; clear hp hs ho)
    | (go_at_call_of 9 n5; refine (HREC.out _ _ H4.out.at_).mono ?_; rintro e w5 ⟨rfl, hp, ho⟩; have H5 := Lib.hid (H4.out.turn hp.pat ho); have HR5 := Lib.hid (row_keeps H4.out.at_.pat HR4.out ho); have HS5 := Lib.hid (only_block ho HS4.out (H4.out.at_.pat.notMap HS4.out)); clear hp ho)
    | (go_at_call 14; refine (HHOL.out _ _ H5.out.at_).mono ?_; rintro e w6 ⟨g6, cap6, rfl, hc6, hb⟩; have H6 := Lib.hid (H5.out.step hb); obtain ⟨c0, c1, c2, c3⟩ := offers_cells HY.out (row_below HR5.out hb); have c4 : w6.cell? ⟨g4, 1, none⟩ = some (.int .i64 4) := (cell_of_row _ _ _ _ _ _ (below_block hb HS5.out)).trans rfl; clear hb)
    | (go_at_call 15; refine (HDON.out _ _ H6.out.at_).mono ?_; rintro e w7 ⟨rfl, hb⟩; have H7 := Lib.hid (H6.out.step hb); clear hb)
    | ((with_reducible refine wpList_buildTo rfl 38 _ rfl _ rfl n2 ?_ ?_); (simp only [List.map_toArray, List.map_cons, List.map_nil]; exact HB2.out))
    | ((with_reducible refine wpList_buildTo rfl 38 _ rfl _ rfl n5 ?_ ?_); (simp only [List.map_toArray, List.map_cons, List.map_nil]; exact HB5.out))
    | ((refine wpList_load_row rfl 30 _ rfl w2.heap.size ?_ 30 (cellsOf y).toArray (0, 0) _ ?_ Tryd.undId rfl HX.out ?_); (rfl); (first | exact H6.out.id | exact H5.out.id | exact H4.out.id | exact H3.out.id))
    | ((refine wpList_load_rowG rfl 30 _ rfl w2.heap.size ?_ 30 (cellsOf y).toArray (0, 0) _ ?_ Tryd.undId rfl HX.out ?_); (rfl); (exact H6.out.id)))
  go_ret
  exact ⟨rfl, H7.out.at_.below⟩
end Go.Proofs.YtpogpfabnkgkfaaDoor
