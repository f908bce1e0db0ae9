/- The model of Placer.Next, in plain words. -/
import Derived.Test.YtpogpfabnkgkfaaDoorJ
import Derived.StillTailTactics
namespace Go.Proofs.YtpogpfabnkgkfaaDoor
open Go.RowKit Go.BigFrame Go.Maps Go.Shelf Go.Sort
set_option maxRecDepth 100000

/-! What Next does, over the model. -/
def PM.setSt (M : PM) (i : Nat) (st : Int → Int × Int) : PM := { M with ws := M.ws.modify i fun x => { x with st := st } }
def failAll (l : List Int) (st : Int → Int × Int) : Int → Int × Int := l.foldl (fun st who => upd st who (4, 0)) st
def failLate (st : Int → Int × Int) (now : Int) : Int → Int × Int := failAll (allOf st fun x => lateB x.1 x.2 now) st
def PM.stOf (M : PM) (i : Nat) : Int → Int × Int := match M.ws[i]? with
  | some x => x.st
  | none => fun _ => (0, 0)
def busyN (st : Int → Int × Int) : Nat := (allOf st fun x => busyB x.1).length
def fillW (now : Int) (i : Nat) : Nat → PM → PM × List Int
  | 0, M => (M, [])
  | f + 1, M =>
    if (busyN (M.stOf i) : Int) < M.k then
      if bestB M (M.stOf i) = true then
        let r := fillW now i f (M.setSt i (upd (M.stOf i) (bestI M (M.stOf i)) (1, now)))
        (r.1, bestI M (M.stOf i) :: r.2)
      else (M, [])
    else (M, [])
/-- Pack i: who is late fails, then others are asked. -/
def nextW (now : Int) (i : Nat) (M : PM) : PM × List Int := fillW now i 9 (M.setSt i (failLate (M.stOf i) now))
/-- An offer: to whom, the pack, its size. -/
structure Off where
  who : Int
  id : List UInt8
  n : Nat
def offers (x : WM) (l : List Int) : List Off := l.map fun who => ⟨who, x.id, x.bytes.length⟩
def nextTo (now : Int) (M : PM) : Nat → PM × List Off
  | 0 => (M, [])
  | k + 1 =>
    let r := nextTo now M k
    let s := nextW now k r.1
    (s.1, r.2 ++ match r.1.ws[k]? with
      | some x => offers x s.2
      | none => [])
def offCells (o : Off) : List Value := sentCells o.who (noteCells 1 o.id o.n (.slice none 0 0))

theorem setSt_len (M : PM) (i : Nat) (st : Int → Int × Int) : (M.setSt i st).ws.length = M.ws.length := by simp [PM.setSt]
theorem setSt_at (M : PM) (i : Nat) (st : Int → Int × Int) (x : WM) (h : M.ws[i]? = some x) : (M.setSt i st).ws[i]? = some { x with st := st } := by
  simp [PM.setSt, h]
theorem setSt_other (M : PM) (i j : Nat) (st : Int → Int × Int) (h : i ≠ j) : (M.setSt i st).ws[j]? = M.ws[j]? := by
  simp [PM.setSt, h]
theorem stOf_at {M : PM} {i : Nat} {x : WM} (h : M.ws[i]? = some x) : M.stOf i = x.st := by unfold PM.stOf; rw [h]
theorem stOf_setSt (M : PM) (i : Nat) (st : Int → Int × Int) (h : i < M.ws.length) : (M.setSt i st).stOf i = st := by
  have e : M.ws[i]? = some M.ws[i] := by simp [h]
  rw [stOf_at (setSt_at M i st _ e)]
theorem setSt_setSt (M : PM) (i : Nat) (s t : Int → Int × Int) : (M.setSt i s).setSt i t = M.setSt i t := by
  unfold PM.setSt
  congr 1
  apply List.ext_getElem?
  intro j
  simp only [List.getElem?_modify]
  by_cases h : i = j
  · simp only [h, if_true]; cases M.ws[j]? <;> rfl
  · simp [h]
theorem setSt_self (M : PM) (i : Nat) (x : WM) (h : M.ws[i]? = some x) : M.setSt i x.st = M := by
  unfold PM.setSt
  have : M.ws.modify i (fun y => { y with st := x.st }) = M.ws := by
    apply List.ext_getElem?
    intro j
    simp only [List.getElem?_modify]
    by_cases e : i = j
    · subst e; rw [h]; simp
    · simp [e]
  rw [this]
theorem setSt_k (M : PM) (i : Nat) (st : Int → Int × Int) : (M.setSt i st).k = M.k ∧ (M.setSt i st).ps = M.ps := ⟨rfl, rfl⟩

/-- A placer with one map turned. -/
theorem PAt.turn {w w' : World} {L : PL} {M : PM} {i : Nat} {l : WL} {st : Int → Int × Int} (h : PAt w L M) (hl : L.ws[i]? = some l) (hm : MapSt w' l.mb st) (ho : Only (fun j => j = l.mb) w w') : PAt w' L (M.setSt i st) := by
  have hi : i < L.ws.length := (List.getElem?_eq_some_iff.1 hl).1
  obtain ⟨l0, x, h1, h2, hx⟩ := h.at_ hi
  rw [hl] at h1
  obtain rfl : l = l0 := Option.some.inj h1
  obtain ⟨D, ⟨es, clock, hb, _⟩, _⟩ := hx.map
  have cells : ∀ b cs t fr, w.heap[b]? = some (.cells cs t fr) → ¬ (b = l.mb) := fun b cs t fr hc e => by rw [e, hb] at hc; cases hc
  refine ⟨only_block ho h.block (cells _ _ _ _ h.block), h.k, ?_, h.nodes, h.sorted, ?_, h.many, by rw [setSt_len]; exact h.len, ?_, h.maps⟩
  · refine row_only h.ps ho fun g hg => ?_
    rcases h.ps.2 with ⟨e, _⟩ | ⟨g', cap, cur, e, _, c, _⟩
    · rw [e] at hg; cases hg
    · rw [e] at hg; cases hg; exact cells _ _ _ _ c
  · refine row_only h.lv ho fun g hg => ?_
    rcases h.lv.2 with ⟨e, _⟩ | ⟨g', cap, cur, e, _, c, _⟩
    · rw [e] at hg; cases hg
    · rw [e] at hg; cases hg; exact cells _ _ _ _ c
  · intro j l' x' hl' hx'
    by_cases e : i = j
    · subst e
      rw [hl] at hl'
      obtain rfl : l = l' := Option.some.inj hl'
      rw [setSt_at M i st x h2] at hx'
      obtain rfl := Option.some.inj hx'
      refine ⟨only_block ho hx.block (cells _ _ _ _ hx.block), hx.id, ?_, hx.len, hm⟩
      refine row_only hx.bytes ho fun g hg => ?_
      rcases hx.bytes.2 with ⟨e, _⟩ | ⟨g', cap, cur, e, _, c, _⟩
      · rw [e] at hg; cases hg
      · rw [e] at hg; cases hg; exact cells _ _ _ _ c
    · rw [setSt_other M i j st e] at hx'
      have hy := h.ws j l' x' hl' hx'
      refine ⟨only_block ho hy.block (cells _ _ _ _ hy.block), hy.id, ?_, hy.len, hy.map.kept ho ?_⟩
      · refine row_only hy.bytes ho fun g hg => ?_
        rcases hy.bytes.2 with ⟨e, _⟩ | ⟨g', cap, cur, e, _, c, _⟩
        · rw [e] at hg; cases hg
        · rw [e] at hg; cases hg; exact cells _ _ _ _ c
      · intro e2
        have hn := h.maps
        have hj : j < L.ws.length := (List.getElem?_eq_some_iff.1 hl').1
        have e3 : (L.ws.map (·.mb))[j]'(by simpa using hj) = (L.ws.map (·.mb))[i]'(by simpa using hi) := by
          simp only [List.getElem_map]
          rw [(List.getElem?_eq_some_iff.1 hl').2, (List.getElem?_eq_some_iff.1 hl).2]
          exact e2
        exact e ((List.getElem_inj (h₀ := by simpa using hj) (h₁ := by simpa using hi) hn).1 e3).symm

/-- 'm[k] = v' on such a map, for the walk. -/
theorem wpList_store_st {w : World} {ops : Array Oper} {rest : List Oper} {o : Oper} {a : Act} {Q : Exit → Act → World → Prop} (hg : o.guard = none) (m x v : Operand) (hop : o.op = Op.mapUpdate 56 m x v)
    (mb : Nat) (st : Int → Int × Int) (hm : a.eval m = .map (some mb)) (h : MapSt w mb st) (k : Int) (hk : 0 ≤ k ∧ k < 64) (hx : a.eval x = .int .i64 k) (y : Int × Int) (hv : a.eval v = stV y) (hy : y.1 ≠ 0) (hs : 0 ≤ y.2 ∧ y.2 ≤ 18446744073709551615)
    (hK : ∀ w', MapSt w' mb (upd st k y) → Only (fun i => i = mb) w w' → wpList Tryd.prog ops Q rest (a.put o.dst undef) w') : wpList Tryd.prog ops Q (o :: rest) a w := by
  refine wpList_plain hg fun K' hK' => ?_
  obtain ⟨w', hrun, r1, r2⟩ := h.store hk hy hs
  unfold Oper.wp
  simp only [execOp, hop, hm, hx, hv, Sem.run_bind, hrun, Result.andThen]
  exact hK' _ _ (hK w' r1 r2)

theorem failAll_snoc (l : List Int) (st : Int → Int × Int) (k : Nat) (h : k < l.length) : failAll (l.take (k + 1)) st = upd (failAll (l.take k) st) (l.getD k 0) (4, 0) := by
  unfold failAll
  rw [List.take_succ_eq_append_getElem h, List.foldl_append]
  have e : l.getD k 0 = l[k] := by simp [List.getD, h]
  rw [e]; rfl
end Go.Proofs.YtpogpfabnkgkfaaDoor
