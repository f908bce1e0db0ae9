/- What packs.Id is to say; a placer to which a pack is added. -/
import Derived.Test.YtpogpfabnkgkfaaDoorR
import Derived.Deep.AppendLies
import Derived.Laws.Tables
namespace Go.Proofs.YtpogpfabnkgkfaaDoor
open Go.RowKit Go.BigFrame Go.Maps Go.Shelf Go.Sort
set_option maxRecDepth 100000

/-! The id of bytes. -/
def IdSays (G : World → Prop) (f : List UInt8 → List UInt8) : Prop := (∀ b, (f b).length = 32) ∧ (∀ w w' : World, G w → Below w.heap.size w w' → G w') ∧ ∀ (v : Value) (b : List UInt8) (w : World), G w → SliceAt w v (cellsOf b) → 1 ≤ b.length → b.length ≤ 1048576 →
  Calls Tryd.prog 17 #[v] w fun e w' => e = .returned (.agg (cellsOf (f b)).toArray) ∧ Below w.heap.size w w'

theorem results_ct {P : Program} {fn : Func} {p u : Tmp} {ty : TypeId} (h : fn.results = #[.cell p ty, .tmp u]) (tmps : Array Value) (w : World) (g : Nat) (t : TypeId) (cs : Array Value) (fr : Nat × Nat) (d : TypeDesc)
    (hp : tmps.getD p undef = .pointer (some ⟨g, 0, none⟩)) (hg : w.heap[g]? = some (.cells cs t fr))
    (hu : P.underlying ty = some d) (hd : (match d with | .struct _ | .array _ _ => true | _ => false) = true) (hi : (P.info? ty).map (·.size) = some cs.size) :
    (results fn tmps).run P w = .ok (.tuple #[.agg cs, tmps.getD u undef]) w := by
  have hp' : tmps[p]?.getD undef = .pointer (some ⟨g, 0, none⟩) := by simpa using hp
  simp [results, h, hp', asAddr, run_loadVar_row w g t ty cs fr d hg hu hd hi]

def zeroId : List Value := List.replicate 32 (.int .u8 0)
def wantedCells (id : List UInt8) (bv : Value) (mb : Nat) : List Value := cellsOf id ++ [bv, .map (some mb)]
def placesWanted : List (Nat × Nat) := [(0, 32), (32, 1), (33, 1)]
theorem builtWanted (parts : List (Nat × Value)) : Tryd.prog.built 58 parts = Instr.fill (placesWanted.toArray[·]?) (zeroId ++ [Value.slice none 0 0, Value.map none]).toArray parts := by kernel_rfl
theorem builtWanted3 (id : List UInt8) (h : id.length = 32) (ao : Option Addr) (n cap : Nat) (mb : Nat) : Tryd.prog.built 58 [(0, .agg (cellsOf id).toArray), (1, .slice ao n cap), (2, .map (some mb))] = some (wantedCells id (.slice ao n cap) mb).toArray := by
  rw [builtWanted]
  have hc : (cellsOf id).length = 32 := by simp [h]
  have e0 := fill_step (placesWanted.toArray[·]?) 0 0 32 (.agg (cellsOf id).toArray) [(1, .slice ao n cap), (2, .map (some mb))] [] zeroId [.slice none 0 0, .map none] rfl (by simp [Value.cells, h]) rfl rfl
  have e1 := fill_step (placesWanted.toArray[·]?) 1 32 1 (.slice ao n cap) [(2, .map (some mb))] (cellsOf id) [.slice none 0 0] [.map none] rfl rfl hc rfl
  have e2 := fill_step (placesWanted.toArray[·]?) 2 33 1 (.map (some mb)) [] (cellsOf id ++ [.slice ao n cap]) [.map none] [] rfl rfl (by simp [h]) rfl
  refine e0.trans ?_
  rw [List.append_nil] at e2
  rw [List.append_assoc] at e2
  rw [List.append_assoc] at e1
  refine Eq.trans ?_ (e1.trans ?_)
  · simp [Value.cells]
  · refine Eq.trans ?_ (e2.trans ?_)
    · simp [Value.cells]
    · simp [Value.cells, wantedCells, Instr.fill]

theorem exNot_of (xs : List Nat) (L : Array Bool) (h : (xs.all fun e => !L.getD e false) = true) : exNot (fun e => xs.contains e) L := fun e he => by
  have := List.all_eq_true.1 h e (by simpa using he)
  simpa using this

def KeepW (w0 : World) (B0 B1 : Nat) (y : List UInt8) (L : PL) (M : PM) (v : Value) (b : List UInt8) (w : World) : Prop :=
  w.heap[B0]? = some (.cells zeroId.toArray 30 (0, 0)) ∧ w.heap[B1]? = some (.cells (cellsOf y).toArray 30 (0, 0)) ∧ PAt w L M ∧ SliceAt w v (cellsOf b) ∧ Below w0.heap.size w0 w
theorem KeepW.step {w0 w w1 : World} {B0 B1 : Nat} {y : List UInt8} {L : PL} {M : PM} {v : Value} {b : List UInt8} (h : KeepW w0 B0 B1 y L M v b w) (hb : Below w.heap.size w w1) : KeepW w0 B0 B1 y L M v b w1 :=
  ⟨below_block hb h.1, below_block hb h.2.1, h.2.2.1.below hb, h.2.2.2.1.below hb, h.2.2.2.2.trans (hb.mono h.2.2.2.2.size)⟩
theorem KeepW.range {w0 w : World} {B0 B1 : Nat} {y : List UInt8} {L : PL} {M : PM} {v : Value} {b : List UInt8} (h : KeepW w0 B0 B1 y L M v b w) : w.rangeAt B1 0 (cellsOf y) := fun j v hj => by
  rw [Nat.zero_add, cell_of_row _ _ _ _ _ _ h.2.1]
  simpa using hj

theorem heap_setCell_same (w : World) (b j : Nat) (cs : Array Value) (t : TypeId) (fr : Nat × Nat) (v : Value) (h : w.heap[b]? = some (.cells cs t fr)) : (w.setCell ⟨b, j, none⟩ v).heap[b]? = some (.cells (cs.setIfInBounds j v) t fr) := by
  show (w.heap.modify b _)[b]? = _
  rw [Array.getElem?_modify, if_pos rfl, h]
  rfl
theorem only_setCell (w : World) (a : Addr) (v : Value) : Only (fun j => j = a.block) w (w.setCell a v) :=
  ⟨rfl, rfl, rfl, by simp [World.setCell], fun k _ hk => Below.heap_setCell w a v k hk⟩
/-- One more is wanted: behind the append and the store. -/
theorem PAt.add {wB w8 : World} {L : PL} {M : PM} {x : WM} {l : WL} {g cap : Nat} (h : PAt wB L M) (hx : WAt wB l x) (hmb : ∀ l' ∈ L.ws, l'.mb ≠ l.mb) (hmany : L.ws.length < 1048576)
    (hown : w8.ownsRow 0 54 1 (.slice (some ⟨g, 0, none⟩) (L.ws.length + 1) cap) (L.ws.length + 1) ((L.ws.map fun l => .pointer (some ⟨l.wb, 0, none⟩)) ++ [.pointer (some ⟨l.wb, 0, none⟩)])) (hgrow : wB.grownBy w8 L.lv.ownBlock) :
    PAt (w8.setCell ⟨L.pb, 2, none⟩ (.slice (some ⟨g, 0, none⟩) (L.ws.length + 1) cap)) ⟨L.pb, L.pv, .slice (some ⟨g, 0, none⟩) (L.ws.length + 1) cap, L.ws ++ [l]⟩ ⟨M.k, M.ps, M.ws ++ [x]⟩ := by
  have ho1 : Only (fun j => L.lv.ownBlock = some j) wB w8 := Only.of_grown hgrow (fun k e => e)
  have ho2 := only_setCell w8 ⟨L.pb, 2, none⟩ (.slice (some ⟨g, 0, none⟩) (L.ws.length + 1) cap)
  have hlvb : ∀ j, L.lv.ownBlock = some j → ∃ cs, wB.heap[j]? = some (.cells cs 54 (0, 0)) := fun j hj => by
    rcases h.lv.2 with ⟨e1, _⟩ | ⟨g', cap', cur, e1, _, c, _⟩
    · rw [e1] at hj; cases hj
    · rw [e1] at hj; cases hj; exact ⟨_, c⟩
  have no : ∀ b cs t fr, wB.heap[b]? = some (.cells cs t fr) → t ≠ 54 → ¬ L.lv.ownBlock = some b := fun b cs t fr hc ht hf => by
    obtain ⟨cs', e⟩ := hlvb b hf
    rw [hc] at e
    injection e with e
    injection e with _ e _
    exact ht e
  have nm : ∀ b es clock, wB.heap[b]? = some (.map es clock) → ¬ L.lv.ownBlock = some b := fun b es clock hc hf => by
    obtain ⟨cs', e⟩ := hlvb b hf
    rw [hc] at e
    cases e
  have hpb8 : w8.heap[L.pb]? = some (.cells #[.int .i64 M.k, L.pv, L.lv] 51 (0, 0)) := only_block ho1 h.block (no _ _ _ _ h.block (by decide))
  have np : ∀ b cs t fr, w8.heap[b]? = some (.cells cs t fr) → t ≠ 51 → ¬ b = (⟨L.pb, 2, none⟩ : Addr).block := fun b cs t fr hc ht e => by
    rw [show b = L.pb from e, hpb8] at hc
    injection hc with e
    injection e with _ e _
    exact ht e.symm
  have npm : ∀ b es clock, w8.heap[b]? = some (.map es clock) → ¬ b = (⟨L.pb, 2, none⟩ : Addr).block := fun b es clock hc e => by
    rw [show b = L.pb from e, hpb8] at hc
    cases hc
  have rowB : ∀ {base e n : Nat} {v : Value} {xs : List Value}, wB.ownsRow base e 1 v n xs → e ≠ 54 → w8.ownsRow base e 1 v n xs := fun {base e n v xs} hr he => by
    refine row_only hr ho1 fun g' hg => ?_
    rcases hr.2 with ⟨e1, _⟩ | ⟨g2, cap2, cur, e1, _, c, _⟩
    · rw [e1] at hg; cases hg
    · rw [e1] at hg; cases hg; exact no _ _ _ _ c he
  have row8 : ∀ {base e n : Nat} {v : Value} {xs : List Value}, w8.ownsRow base e 1 v n xs → e ≠ 51 → (w8.setCell ⟨L.pb, 2, none⟩ (.slice (some ⟨g, 0, none⟩) (L.ws.length + 1) cap)).ownsRow base e 1 v n xs := fun {base e n v xs} hr he => by
    refine row_only hr ho2 fun g' hg => ?_
    rcases hr.2 with ⟨e1, _⟩ | ⟨g2, cap2, cur, e1, _, c, _⟩
    · rw [e1] at hg; cases hg
    · rw [e1] at hg; cases hg; exact np _ _ _ _ c he
  have wat : ∀ l x, WAt wB l x → WAt (w8.setCell ⟨L.pb, 2, none⟩ (.slice (some ⟨g, 0, none⟩) (L.ws.length + 1) cap)) l x := fun l x hx => by
    have hb8 := only_block ho1 hx.block (no _ _ _ _ hx.block (by decide))
    have hm8 : MapSt w8 l.mb x.st := hx.map.kept ho1 (by obtain ⟨D, ⟨es, clock, hb, _⟩, _⟩ := hx.map; exact nm _ _ _ hb)
    exact ⟨only_block ho2 hb8 (np _ _ _ _ hb8 (by decide)), hx.id, row8 (rowB hx.bytes (by decide)) (by decide), hx.len, hm8.kept ho2 (by obtain ⟨D, ⟨es, clock, hb, _⟩, _⟩ := hm8; exact npm _ _ _ hb)⟩
  refine ⟨?_, h.k, row8 (rowB h.ps (by decide)) (by decide), h.nodes, h.sorted, ?_, ?_, ?_, ?_, ?_⟩
  · rw [heap_setCell_same _ _ _ _ _ _ _ hpb8]; rfl
  · have e := row8 hown (by decide)
    simpa using e
  · simp only [List.length_append, List.length_cons, List.length_nil]; omega
  · simp [h.len]
  · intro i l' x' h1 h2
    simp only at h1 h2
    rcases Nat.lt_trichotomy i L.ws.length with hi | hi | hi
    · rw [List.getElem?_append_left hi] at h1
      rw [List.getElem?_append_left (by rw [← h.len]; exact hi)] at h2
      exact wat _ _ (h.ws i _ _ h1 h2)
    · subst hi
      rw [List.getElem?_append_right (Nat.le_refl _)] at h1
      rw [List.getElem?_append_right (by rw [h.len]; exact Nat.le_refl _), ← h.len] at h2
      simp only [Nat.sub_self, List.getElem?_cons_zero, Option.some.injEq] at h1 h2
      subst h1; subst h2
      exact wat _ _ hx
    · rw [List.getElem?_eq_none (by simp; omega)] at h1; cases h1
  · rw [List.map_append, List.nodup_append]
    refine ⟨h.maps, by simp, ?_⟩
    intro a ha b hb e
    simp only [List.map_cons, List.map_nil, List.mem_singleton] at hb
    obtain ⟨l', hl', rfl⟩ := List.mem_map.1 ha
    exact hmb l' hl' (e.trans hb)

theorem yields_build {P : Program} {ops : Array Oper} {S : World → Prop} {op : Oper} {a : Act} (hw : Region.wanted op (yielded ops a.tmps) = true) (t : TypeId) (parts : Array (Nat × Operand)) (ho : op.op = .build t parts)
    (cells : Array Value) (hf : P.built t (parts.map fun (i, x) => (i, a.eval x)).toList = some cells) : YieldsIf P ops S op (.agg cells) a :=
  .inl ⟨hw, fun w _ => by
    unfold execOp
    simp only [ho, Sem.run_bind, run_build w t _ cells hf, Result.andThen_ok]
    first | rfl | simp⟩

theorem PAt.keepT {w w' : World} {L : PL} {M : PM} {F : Nat → Prop} (t : TypeId) (ht : t ≠ 51 ∧ t ≠ 3 ∧ t ≠ 54 ∧ t ≠ 58 ∧ t ≠ 5) (h : PAt w L M) (ho : Only F w w') (hF : ∀ j, F j → ∀ o, w.heap[j]? = some o → ∃ cs fr, o = .cells cs t fr) : PAt w' L M := by
  obtain ⟨t1, t2, t3, t4, t5⟩ := ht
  have no : ∀ b cs u fr, w.heap[b]? = some (.cells cs u fr) → t ≠ u → ¬ F b := fun b cs u fr hc ht hf => by
    obtain ⟨cs', fr', e⟩ := hF b hf _ hc
    injection e with _ e _
    exact ht e.symm
  have nm : ∀ b es clock, w.heap[b]? = some (.map es clock) → ¬ F b := fun b es clock hc hf => by
    obtain ⟨cs', fr', e⟩ := hF b hf _ hc
    cases e
  have rows : ∀ {base e n : Nat} {v : Value} {xs : List Value}, w.ownsRow base e 1 v n xs → t ≠ e → ∀ g, v.ownBlock = some g → ¬ F g := fun {base e n v xs} hr he g hg => by
    rcases hr.2 with ⟨e1, _⟩ | ⟨g', cap, cur, e1, _, c, _⟩
    · rw [e1] at hg; cases hg
    · rw [e1] at hg; cases hg; exact no _ _ _ _ c he
  refine ⟨only_block ho h.block (no _ _ _ _ h.block t1), h.k, row_only h.ps ho (rows h.ps t2), h.nodes, h.sorted, row_only h.lv ho (rows h.lv t3), h.many, h.len, fun i l x h1 h2 => ?_, h.maps⟩
  have hx := h.ws i l x h1 h2
  refine ⟨only_block ho hx.block (no _ _ _ _ hx.block t4), hx.id, row_only hx.bytes ho (rows hx.bytes t5), hx.len, hx.map.kept ho ?_⟩
  obtain ⟨D, ⟨es, clock, hb, _⟩, _⟩ := hx.map
  exact nm _ _ _ hb
theorem heap_setRow_same (w : World) (b : Nat) (old cs : Array Value) (t : TypeId) (fr : Nat × Nat) (h : w.heap[b]? = some (.cells old t fr)) : (w.setRow b cs).heap[b]? = some (.cells cs t fr) := by
  show (w.heap.modify b _)[b]? = _
  rw [Array.getElem?_modify, if_pos rfl, h]
  rfl
theorem only_setRow (w : World) (b : Nat) (cs : Array Value) : Only (fun j => j = b) w (w.setRow b cs) :=
  ⟨rfl, rfl, rfl, by simp [World.setRow], fun k _ hk => by
    show (w.heap.modify b _)[k]? = _
    rw [Array.getElem?_modify, if_neg (fun e => hk e.symm)]⟩
/-- The two id cells, behind the append and the store. -/
theorem KeepW.added {w0 wB w8 : World} {B0 B1 : Nat} {y : List UInt8} {L : PL} {M : PM} {v : Value} {b : List UInt8} (h : KeepW w0 B0 B1 y L M v b wB) (hgrow : wB.grownBy w8 L.lv.ownBlock) :
    w8.heap[B0]? = some (.cells zeroId.toArray 30 (0, 0)) ∧ w8.heap[B1]? = some (.cells (cellsOf y).toArray 30 (0, 0)) ∧ w8.heap[L.pb]? = some (.cells #[.int .i64 M.k, L.pv, L.lv] 51 (0, 0)) := by
  have ho1 : Only (fun j => L.lv.ownBlock = some j) wB w8 := Only.of_grown hgrow (fun k e => e)
  have no : ∀ b cs t fr, wB.heap[b]? = some (.cells cs t fr) → t ≠ 54 → ¬ L.lv.ownBlock = some b := fun b cs t fr hc ht hf => by
    rcases h.2.2.1.lv.2 with ⟨e1, _⟩ | ⟨g', cap', cur, e1, _, c, _⟩
    · rw [e1] at hf; cases hf
    · rw [e1] at hf; cases hf
      rw [hc] at c
      injection c with e
      injection e with _ e _
      exact ht e
  exact ⟨only_block ho1 h.1 (no _ _ _ _ h.1 (by decide)), only_block ho1 h.2.1 (no _ _ _ _ h.2.1 (by decide)), only_block ho1 h.2.2.1.block (no _ _ _ _ h.2.2.1.block (by decide))⟩
theorem ne_block {w : World} {b b' : Nat} {cs cs' : Array Value} {t t' : TypeId} {fr fr' : Nat × Nat} (h : w.heap[b]? = some (.cells cs t fr)) (h' : w.heap[b']? = some (.cells cs' t' fr')) (ht : t ≠ t') : b ≠ b' := fun e => by
  rw [e, h'] at h
  injection h with e
  injection e with _ e _
  exact ht e.symm
theorem Tryd.infoPWanted : (Tryd.prog.info? 54).map (fun i => (i.zero, i.size, i.bytes)) = some (some (.pointer none), 1, 8) := by kernel_rfl
end Go.Proofs.YtpogpfabnkgkfaaDoor
