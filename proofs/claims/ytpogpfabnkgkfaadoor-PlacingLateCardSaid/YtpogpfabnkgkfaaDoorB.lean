/- Ids compared, and the closure of Placer.find, walked: for ids of 32 bytes. -/
import Derived.Test.YtpogpfabnkgkfaaDoorA
import Derived.Deep.MidRow
import Derived.ChangeKeysEq
namespace Go.Proofs.YtpogpfabnkgkfaaDoor
open Go.RowKit Go.BigFrame

/-! Memory: a byte; an id as cells; arrays compared. -/
def u8v (b : UInt8) : Value := .int .u8 (b.toNat : Int)
theorem u8v_inj {a b : UInt8} (h : u8v a = u8v b) : a = b := by
  unfold u8v at h
  injection h with _ h
  exact UInt8.toNat_inj.1 (by omega)
def cellsOf (x : List UInt8) : List Value := x.map u8v
@[simp] theorem length_cellsOf (x : List UInt8) : (cellsOf x).length = x.length := by simp [cellsOf]
theorem cellsOf_inj {x y : List UInt8} (h : cellsOf x = cellsOf y) : x = y := by
  unfold cellsOf at h
  induction x generalizing y with
  | nil => cases y with
    | nil => rfl
    | cons b y => simp at h
  | cons a x ih => cases y with
    | nil => simp at h
    | cons b y =>
      simp only [List.map_cons, List.cons.injEq] at h
      rw [u8v_inj h.1, ih h.2]
theorem oneCell_cellsOf (x : List UInt8) : ∀ v ∈ cellsOf x, v.oneCell' = true := by
  intro v hv
  simp only [cellsOf, List.mem_map] at hv
  obtain ⟨b, _, rfl⟩ := hv
  rfl

section
variable {P : Program} (w : World)
theorem run_eqItems_u8 (d : Nat) {e : TypeId} (he : P.underlying e = some (.int .u8)) (hc : P.cellsOf e = 1) (xs ys : List UInt8) (hl : xs.length = ys.length) :
    ∀ (n k : Nat), k + n = xs.length → (Op.eqItems (d + 1) e (P.cellsOf e) (cellsOf xs).toArray (cellsOf ys).toArray (List.range' k n)).run P w = .ok (decide (xs.drop k = ys.drop k)) w
  | 0, k, h => by
    have h1 : xs.drop k = [] := List.drop_eq_nil_of_le (by omega)
    have h2 : ys.drop k = [] := List.drop_eq_nil_of_le (by omega)
    simp [Op.eqItems, h1, h2]
  | n + 1, k, h => by
    have hk : k < xs.length := by omega
    have hk' : k < ys.length := by omega
    have hagg : (isAgg e).run P w = .ok false w := by
      unfold isAgg
      rw [Sem.run_bind, run_underlying he w]
      rfl
    have px : (part e (cellsOf xs).toArray (k * 1)).run P w = .ok (u8v xs[k]) w := by
      simp [part, hagg, cellsOf, hk]
    have py : (part e (cellsOf ys).toArray (k * 1)).run P w = .ok (u8v ys[k]) w := by
      simp [part, hagg, cellsOf, hk']
    have hq : (Op.equalIn (d + 1) e (u8v xs[k]) (u8v ys[k])).run P w = .ok (((xs[k].toNat : Int)) == ((ys[k].toNat : Int))) w := run_equalIn_int w d e .u8 .u8 _ _ he
    have ih := run_eqItems_u8 d he hc xs ys hl n (k + 1) (by omega)
    rw [hc] at ih ⊢
    rw [List.range'_succ]
    simp only [Op.eqItems, Sem.run_bind, px, py, hq, Result.andThen_ok]
    have dx : xs.drop k = xs[k] :: xs.drop (k + 1) := List.drop_eq_getElem_cons hk
    have dy : ys.drop k = ys[k] :: ys.drop (k + 1) := List.drop_eq_getElem_cons hk'
    rw [show decide (xs.drop k = ys.drop k) = (decide (xs[k] = ys[k]) && decide (xs.drop (k + 1) = ys.drop (k + 1))) by rw [dx, dy, ← Bool.decide_and]; simp only [List.cons.injEq]]
    clear dx dy
    by_cases hxy : xs[k] = ys[k]
    · have e1 : ((xs[k].toNat : Int) == (ys[k].toNat : Int)) = true := by rw [hxy]; simp
      rw [e1]
      simp only [Bool.not_true, Bool.false_eq_true, if_false, ih, hxy]
      simp
    · have hne : ¬ xs[k].toNat = ys[k].toNat := fun h => hxy (UInt8.toNat_inj.1 h)
      have e1 : ((xs[k].toNat : Int) == (ys[k].toNat : Int)) = false := by simp; omega
      rw [e1]
      simp [hxy]

theorem run_equal_ids (d : Nat) {t e : TypeId} {i : TypeInfo} {n : Nat} (ht : P.underlying t = some (.array n e)) (hi : P.info? e = some i) (he : P.underlying e = some (.int .u8)) (hc : P.cellsOf e = 1) (xs ys : List UInt8) (hx : xs.length = n) (hy : ys.length = n) :
    (Op.equalIn (d + 2) t (.agg (cellsOf xs).toArray) (.agg (cellsOf ys).toArray)).run P w = .ok (decide (xs = ys)) w := by
  rw [run_equalIn_array w (d + 1) _ _ ht hi, List.range_eq_range']
  have h := run_eqItems_u8 (P := P) w d he hc xs ys (by omega) n 0 (by omega)
  simpa using h
end

theorem Tryd.und5 : Tryd.prog.underlying 5 = some (.int .u8) := by kernel_rfl
theorem Tryd.undId : Tryd.prog.underlying 30 = some (.array 32 5) := by kernel_rfl
theorem Tryd.infoU8 : ∃ i, Tryd.prog.info? 5 = some i := by
  have h : (Tryd.prog.info? 5).isSome = true := by kernel_rfl
  exact Option.isSome_iff_exists.1 h
theorem Tryd.cellsU8 : Tryd.prog.cellsOf 5 = 1 := by kernel_rfl
theorem Tryd.sizeId : (Tryd.prog.info? 30).map (·.size) = some 32 := by kernel_rfl
theorem Tryd.guardId : Tryd.prog.eqGuardType Tryd.prog.depth 30 = false := by kernel_rfl

theorem run_eqIds (w : World) (x y : List UInt8) (hx : x.length = 32) (hy : y.length = 32) :
    (Op.equalIn 10000 30 (.agg (cellsOf x).toArray) (.agg (cellsOf y).toArray)).run Tryd.prog w = .ok (decide (x = y)) w := by
  obtain ⟨i, hi⟩ := Tryd.infoU8
  exact run_equal_ids w 9998 Tryd.undId hi Tryd.und5 Tryd.cellsU8 x y hx hy

theorem run_loadId (w : World) (b o : Nat) (x : List UInt8) (hx : x.length = 32) (h : w.rangeAt b o (cellsOf x)) :
    (Instr.loadAt 30 (.pointer (some ⟨b, o, none⟩))).run Tryd.prog w = .ok (.agg (cellsOf x).toArray) w :=
  run_loadAt_mid w b o 30 (cellsOf x) (.array 32 5) h Tryd.undId rfl (by rw [Tryd.sizeId]; simp [hx])

theorem quiet_load_mid {P : Program} {C : World → Prop} {K : Act → Prop} {o : Oper} {a : Act} (ty : TypeId) (x : Operand) (ho : o.op = .load ty x) (b off : Nat) (hx : a.eval x = .pointer (some ⟨b, off, none⟩)) (cs : List Value) (d : TypeDesc)
    (hc : ∀ w, C w → w.rangeAt b off cs) (hu : P.underlying ty = some d) (hd : d.isRow = true) (hi : (P.info? ty).map (·.size) = some cs.length) (hk : K (a.put o.dst (.agg cs.toArray))) : o.quiet P a C K := by
  refine ⟨_, fun w hw => ?_, hk⟩
  unfold Oper.quietAt execOp
  simp only [ho, hx, Instr.loadAt, Instr.sureAddr, Sem.run_bind, Sem.run_pure, Result.andThen_ok, run_loadVar_mid w b off ty cs d (hc w hw) hu hd hi]
  exact ⟨rfl, rfl⟩

theorem rangeAt_drewN {w : World} {b o : Nat} {cs : List Value} (h : w.rangeAt b o cs) (n : Nat) : (w.drewN n).rangeAt b o cs := h

/-- The closure of find. -/
theorem same1_any (x y : List UInt8) (hx : x.length = 32) (hy : y.length = 32) (wb c : Nat) (w : World) (hr : w.rangeAt wb 0 (cellsOf x)) (hc : w.rangeAt c 0 (cellsOf y)) :
    Calls Tryd.prog 36 #[.pointer (some ⟨wb, 0, none⟩), .pointer (some ⟨c, 0, none⟩)] w fun e w' => e = .returned (.bool (decide (x = y))) ∧ ∃ n, w' = w.drewN n := by
  have h3 := fun nq => run_eqIds (w.drewN nq) x y hx hy
  have hg := Tryd.guardId
  have r1 : ∀ w', (∃ n, w' = w.drewN n) → w'.rangeAt wb 0 (cellsOf x) := by rintro _ ⟨n, rfl⟩; exact hr
  have r2 : ∀ w', (∃ n, w' = w.drewN n) → w'.rangeAt c 0 (cellsOf y) := by rintro _ ⟨n, rfl⟩; exact hc
  have sx : (Tryd.prog.info? 30).map (·.size) = some (cellsOf x).length := by rw [Tryd.sizeId]; simp [hx]
  have sy : (Tryd.prog.info? 30).map (·.size) = some (cellsOf y).length := by rw [Tryd.sizeId]; simp [hy]
  clear hr hc hx hy
  go_enter Tryd.func36, Tryd.ntmps36
  go_wp2
  refine wp_region_quiet_lit (by kernel_rfl) (by kernel_rfl) ?_
  repeat (first | go_big_quiet_skip | (go_big_quiet_want; (first | (refine quiet_load_mid 30 _ rfl wb 0 rfl (cellsOf x) _ r1 Tryd.undId rfl sx ?_; go_simp) | (refine quiet_load_mid 30 _ rfl c 0 rfl (cellsOf y) _ r2 Tryd.undId rfl sy ?_; go_simp) | go_big_quiet_op); go_big_quiet_on))
  refine wpQuiet_nil ?_
  intro _ hw'
  obtain ⟨nq, hw''⟩ := hw'
  subst hw''
  go_wp2
  go_ret
  exact ⟨rfl, _, rfl⟩
end Go.Proofs.YtpogpfabnkgkfaaDoor
