/- Who doesn't answer in time has failed, and another one is asked, until there is none; when those that failed may be asked again they are: PlacingLate returns true for every input, with the rounds' numbers of the digest as the program's text lays them. No further condition. -/
import Derived.Test.YtpogpfabnkgkfaaDooraT
import Derived.Test.YtpogpfabnkgkfaaDoorCards
import Derived.Test.YtpogpfabnkgkfaaDoorTie
import Derived.ProofKit
import Derived.OpenShut
import Derived.Deep.DeepHandedRow
import Derived.Lib.LaidTab
import Derived.ChangeSame
namespace Go.Proofs.YtpogpfabnkgkfaaDoor
open Go.ChangeShapes Go.WideShapes Go.ChangeAt Go.RowKit
set_option maxRecDepth 100000

theorem own : ownKnob Tryd.prog.godebug = none := by kernel_rfl
theorem gTab : Tryd.prog.globalNamed "bailee/digest.rounds" = some 0 := by kernel_rfl
theorem gTabType : (Tryd.prog.globals[0]?).map (·.type) = some 119 := by kernel_rfl
theorem cellsW64 : Tryd.prog.cellsOf 119 = 64 := by kernel_rfl
theorem cellsU32 : Tryd.prog.cellsOf 103 = 1 := by kernel_rfl
theorem cellsB : Tryd.prog.cellsOf 5 = 1 := by kernel_rfl
theorem undW64 : Tryd.prog.underlying 119 = some (.array 64 103) := by kernel_rfl
theorem laid_rounds {H : Type} : (Rows.laid_bailee_digest_rounds : DataW H) = Lib.tabData .u32 roundsV := rfl
/-- What the row's list gives: the variable's cells hold the rounds' numbers. -/
theorem g_of_laid {W : World} (h : laidMetH Tryd.prog Rows.placingLateRow.laid W) : GAt W := by
  have hT : Lib.TabIs Tryd.prog W "bailee/digest.rounds" .u32 roundsV :=
    Lib.tabIs_of_head (rest := []) gTab gTabType undW64 Tryd.underlying103 cellsU32 cellsW64 h
  unfold Lib.TabIs World.var? at hT
  rw [gTab] at hT
  simp only [Option.bind_some] at hT
  cases hh : W.heap[0]? with
  | none => rw [hh] at hT; cases hT
  | some o =>
    rw [hh] at hT
    cases o with
    | cells cs t fr =>
      simp only [Option.some.injEq] at hT
      subst hT
      exact ⟨t, fr, hh⟩
    | _ => cases hT
section
variable {H : Type} {enc : TypeId × Value → H} {P : Program}
theorem post_of_below {f : Func} {s : ChangeSpec} {apart fresh handsOn again : Bool} {W W' : World} {args : Array Value} {v : Value} {ds gs : List (DataW H)} {before pa pv : List MemPlace}
    (hW : DataW.Whole enc P f.params.toList s.vars apart W args.toList ds gs before)
    (hres : ∀ (b : Nat) (sp : Nat → Bool) (hd : Bool), DataW.TrodAll enc P W' b sp hd f.resultTypes.toList (v.resultList f.resultTypes.size) (s.fn H (ds ++ gs)).results [])
    (hargs : ∀ sp : Nat → Bool, (∀ p ∈ before, sp p.block = true) → DataW.TrodAll enc P W' 0 sp true f.params.toList args.toList (s.fn H (ds ++ gs)).args pa)
    (hvars : ∀ sp : Nat → Bool, (∀ p ∈ before, sp p.block = true) → DataW.TrodVars enc P W' sp s.vars (s.fn H (ds ++ gs)).vars pv)
    (hps : before = pa ++ pv) (hb : Below W.heap.size W W')
    (hok : ∀ (j : Nat) (t : TypeId) (r : Value), f.resultTypes[j]? = some t → (v.resultList f.resultTypes.size)[j]? = some r → Value.okWide P W' .any 0 t r) :
    s.post enc P f apart fresh handsOn again W args v W' := by
  have hlt : ∀ p ∈ before, p.block < W.heap.size := fun p hp => hW.lt p hp
  have hold : ∀ p ∈ before, (fun b => decide (b < W.heap.size)) p.block = true := fun p hp => by simpa using hlt p hp
  refine ⟨ds, gs, before, [], pa, pv, hW, hres _ _ _, hargs _ hold, hvars _ hold, World.keptBut_mono (fun p hp => ⟨hp, ?_⟩) (hb.frame (· ∈ before)), fun _ => ?_⟩
  · rw [hps, List.mem_append] at hp
    exact Or.inr hp
  · obtain ⟨_, _, _, _, _, hz, hn⟩ := hW
    refine ⟨hok, _, _, ([] ++ pa) ++ pv, ⟨[] ++ pa, pv, trodAll_append (hargs _ (fun _ _ => rfl)) (hres _ _ _), hvars _ (fun _ _ => rfl), rfl, ?_, ?_⟩, ?_⟩
    · intro b off hp
      have hin : MemPlace.cell b off ∈ before := by rw [hps]; simpa using hp
      rw [hb.frozen (hlt _ hin)]
      exact hz b off hin
    · intro ha
      have := hn ha
      rw [hps] at this
      simpa using this
    · intro p hp _
      rw [hps]
      simpa using hp
end

/-- A slice of bytes as it came in, as this proof speaks of it. -/
theorem slice_of_cells {W : World} {a : Addr} {len cap : Nat} {zs : List Int} (hl : len ≤ cap) (hz : zs.length = cap) (h1 : 1 ≤ len) (hcell : ∀ i, i < zs.length → W.cell? (a.add i) = some (.int .u8 (zs.getD i 0))) (hwz : ∀ n ∈ zs, (Lit.int .u8 n).wf = true) :
    ∃ bs : List UInt8, bs.length = len ∧ SliceAt W (.slice (some a) len cap) (cellsOf bs) := by
  obtain ⟨b, off, rfl, hc⟩ := _root_.Go.ints_at hcell (by omega)
  have hr : ∀ j, j < zs.length → 0 ≤ zs.getD j 0 ∧ zs.getD j 0 ≤ 255 := fun j hj => by
    rw [List.getD_eq_getElem?_getD, List.getElem?_eq_getElem hj]
    exact bounds_u8 (hwz _ (List.getElem_mem hj))
  have hlen : ((zs.take len).map fun n => UInt8.ofNat n.toNat).length = len := by simp; omega
  refine ⟨(zs.take len).map fun n => UInt8.ofNat n.toNat, hlen, Or.inr ⟨b, off, cap, by rw [length_cellsOf, hlen], ?_, by rw [length_cellsOf, hlen]; exact hl, fun j u hj => ?_⟩⟩
  · exact World.block_lt_of_cell? W ⟨b, off + 0, none⟩ (hc 0 (by omega))
  · have hjl : j < len := by
      rcases Nat.lt_or_ge j len with h | h
      · exact h
      · rw [List.getElem?_eq_none (by rw [length_cellsOf, hlen]; exact h)] at hj; cases hj
    rw [hc j (by omega)]
    rw [← hj]
    have hjz : j < zs.length := by omega
    have hb := hr j hjz
    rw [List.getD_eq_getElem?_getD, List.getElem?_eq_getElem hjz] at hb ⊢
    simp only [Option.getD_some] at hb ⊢
    simp [cellsOf, u8v, hjl, hjz]
    omega
theorem late_calls (n : Int) (h0 : 0 ≤ n) (v : Value) (b : List UInt8) (w : World) (hG : GAt w) (h : SliceAt w v (cellsOf b)) :
    Calls Tryd.prog 3 #[.int .u8 n, v] w fun e w' => e = .returned (.bool true) ∧ Below w.heap.size w w' := by
  obtain ⟨k, rfl⟩ := Int.eq_ofNat_of_zero_le h0
  exact law_late GAt rootS id_says k v b w hG h

/-- What the walk gives, for every argument and every world that holds the rounds' numbers. -/
theorem contract (H : Type) (enc : TypeId × Value → H) (W : World) (base : Nat) (args : Array Value) (ds gs : List (DataW H)) (before : List MemPlace)
    (hval : ∀ (j : Nat) t v, Tryd.f3.params[j]? = some t → args[j]? = some v → Value.okWide Tryd.prog W .any base t v)
    (hW : DataW.Whole enc Tryd.prog Tryd.f3.params.toList Rows.placingLateSpec.vars false W args.toList ds gs before) (hL : laidMetH Tryd.prog Rows.placingLateRow.laid W) :
    Calls Tryd.prog 3 args W fun e W' => ∃ v, e = .returned v ∧ Rows.placingLateSpec.post enc Tryd.prog Tryd.f3 false true false false W args v W' := by
  have hW' := hW
  obtain ⟨p, q, hA0, hV, rfl, hfz, hnd⟩ := hW
  have hA : DataW.TrodAll enc Tryd.prog W 0 (fun _ => true) true Tryd.f3.params.toList args.toList ds p := hA0
  rw [Tryd.params3] at hA hval
  obtain ⟨v0, vs0, d0, ds0, p0, q0, hargs, rfl, rfl, h0, r0⟩ := trodAll_cons hA
  obtain ⟨v1, vs1, d1, ds1, p1, q1, rfl, rfl, rfl, h1, r1⟩ := trodAll_cons r0
  obtain ⟨rfl, rfl, rfl⟩ := trodAll_nil r1
  obtain rfl : args = #[v0, v1] := by cases args; simp_all
  obtain ⟨rfl, rfl⟩ := trodVars_none hV
  obtain ⟨n, rfl, rfl, rfl, hwn⟩ := open_int Tryd.und5 (hval 0 5 v0 rfl rfl) h0
  obtain ⟨a0, len, cap, rfl⟩ := okWide_slice Tryd.underlying22 (hval 1 22 v1 rfl rfl)
  have hn0 := (bounds_u8 hwn).1
  have hG := g_of_laid hL
  obtain ⟨fuel, hf⟩ := h1
  clear hA0
  simp only [List.append_nil] at hW'
  rcases open_ints Tryd.underlying22 Tryd.und5 cellsB hf with ⟨hcs, hx⟩ | ⟨a, len', cap', zs, hcs, _, hl, hm, hz, hx, hcell, hwz⟩
  · simp [Value.cells] at hcs
    obtain ⟨rfl, rfl, rfl⟩ := hcs
    simp only [Prod.mk.injEq] at hx
    obtain ⟨rfl, rfl⟩ := hx
    refine (late_calls n hn0 (.slice none 0 0) [] W hG (Or.inl ⟨rfl, rfl⟩)).mono fun e W' ⟨he, hb⟩ => ?_
    subst he
    exact ⟨_, rfl, post_of_below (pa := []) (pv := []) hW' (fun _ _ _ => trodAll_mk1 (shut_bool Tryd.underlying4 _)) (fun sp _ => trodAll_mk2 (shut_int Tryd.und5 hwn) (shut_slice_nil Tryd.underlying22)) (fun _ _ => rfl) rfl
      hb (ok_one (by kernel_rfl) rfl (okWide_bool_mk Tryd.underlying4 _))⟩
  · simp [Value.cells] at hcs
    obtain ⟨rfl, rfl, rfl⟩ := hcs
    simp only [Prod.mk.injEq] at hx
    obtain ⟨rfl, rfl⟩ := hx
    simp only [if_true] at hz
    have walk : Calls Tryd.prog 3 #[.int .u8 n, .slice (some a) len cap] W fun e w' => e = .returned (.bool true) ∧ Below W.heap.size W w' := by
      by_cases h1 : 1 ≤ len
      · obtain ⟨bs, _, hs⟩ := slice_of_cells hl hz h1 hcell hwz
        exact late_calls n hn0 _ bs W hG hs
      · obtain rfl : len = 0 := by omega
        obtain ⟨k, rfl⟩ := Int.eq_ofNat_of_zero_le hn0
        exact late_triv GAt rootS id_says k (some a) 0 cap (Or.inl rfl) W hG
    refine walk.mono fun e W' ⟨he, hb⟩ => ?_
    subst he
    have hcell' : ∀ i, i < zs.length → W'.cell? (a.add i) = some (.int .u8 (zs.getD i 0)) := fun i hi => by
      rw [hb.cell (World.block_lt_of_cell? W _ (hcell i hi))]; exact hcell i hi
    have again : ∀ sp : Nat → Bool, (∀ p ∈ MemPlace.row a zs.length, sp p.block = true) → DataW.Trod enc Tryd.prog W' 0 sp true 22 (.slice (some a) len cap) (.slice (lits .u8 (zs.take len)) (lits .u8 (zs.drop len))) (MemPlace.row a zs.length) := by
      intro sp hsp
      by_cases hz0 : zs.length = 0
      · have hc0 : cap = 0 := by omega
        have hl0 : len = 0 := by omega
        subst hc0; subst hl0
        have t0 := shut_ints (enc := enc) (w := W') (base := 0) (spare := sp) (held := true) (a := a) (len := 0) (cap := 0) (zs := zs) 0 Tryd.underlying22 Tryd.und5 cellsB (Nat.zero_le _) (Nat.le_refl _) hm (by simp [hz0]) hcell' hwz
        exact ⟨2, by simpa [Value.cells] using t0⟩
      · have hspb : sp a.block = true := by
          have := hsp (.cell a.block a.off) (MemPlace.mem_row.2 ⟨0, by omega, by simp⟩)
          exact this
        have t0 := shut_ints (enc := enc) (w := W') (base := 0) (spare := sp) (held := true) (a := a) (len := len) (cap := cap) (zs := zs) 0 Tryd.underlying22 Tryd.und5 cellsB (Nat.zero_le _) hl hm (by simp [hspb, hz]) hcell' hwz
        exact ⟨2, by simpa [Value.cells] using t0⟩
    exact ⟨_, rfl, post_of_below (pa := MemPlace.row a zs.length) (pv := []) hW' (fun _ _ _ => trodAll_mk1 (shut_bool Tryd.underlying4 _)) (fun sp hsp => trodAll_mk2 (shut_int Tryd.und5 hwn) (again sp (fun p hp => hsp p (by simpa using hp)))) (fun _ _ => rfl) (by simp)
      hb (ok_one (by kernel_rfl) rfl (okWide_bool_mk Tryd.underlying4 _))⟩

/-- A world for the witness: the settled one, the variable holding what its initialiser lays. -/
noncomputable def laidWorld (os : Os) : World :=
  { World.holding Tryd.prog os ⟨#[], #[], []⟩ with heap := (World.holding Tryd.prog os ⟨#[], #[], []⟩).heap.modify 0 fun
      | .cells _ t frozen => .cells (wordsOf roundsV) t frozen
      | o => o }
theorem laid_met (os : Os) : laidMet Tryd.prog Rows.placingLateRow.laid ((laidWorld os).forCall (fun _ _ => 0) ⟨#[], #[.int .u8 0, .slice none 0 0], []⟩).memory :=
  laidMet_of_run' 8 (by kernel_rfl) (by kernel_rfl)
theorem reads (os : Os) {H : Type} (enc : TypeId × Value → H) : ∃ places, DataW.whole enc Tryd.prog ((laidWorld os).forCall (fun _ _ => 0) ⟨#[], #[.int .u8 0, .slice none 0 0], []⟩).memory Tryd.f3.params.toList Rows.placingLateSpec.vars false #[Value.int .u8 0, Value.slice none 0 0].toList 8 = some ([.lit (.int .u8 0), .nil], [], places) :=
  ⟨[], by kernel_rfl⟩
theorem lifted (os : Os) (started : os.Started) (H : Type) (enc : TypeId × Value → H) (F : Stop.Interp) :
    ReturnsInHanded {} Tryd.checked os 3 .any ((OpenSpec.ofChange Rows.placingLateSpec).preRow enc Tryd.prog Tryd.f3 Rows.placingLateRow.domain false Rows.placingLateRow.laid) (((OpenSpec.ofChange Rows.placingLateSpec).at F).post enc Tryd.prog Tryd.f3 false true false false) := by
  obtain ⟨places, hx⟩ := reads os enc
  refine returnsInHanded_of_row (C := Tryd.checked) (s := OpenSpec.ofChange Rows.placingLateSpec) own started (by kernel_rfl) Tryd.func3
    (witness_row_at (enc := enc) (C := Tryd.checked) false (laidWorld os) #[.int .u8 0, .slice none 0 0] rfl (by kernel_rfl) (by kernel_rfl) (by kernel_rfl)
      (OpenSpec.preRow_of_cond 8 hx (by kernel_rfl) (fun k hk => by cases hk) (by kernel_rfl) (laid_met os))) ?_
  intro W base args ds gs before hval hW _ _ _ hL _ _
  exact contract H enc W base args ds gs before hval hW hL
theorem late_said : Rows.PlacingLateSaid :=
  OpenClaim.holds_of_cond 3 Tryd.f3 rfl rfl rfl rfl rfl rfl rfl ⟨rfl, rfl, rfl, rfl, rfl⟩ rfl rfl rfl rfl rfl (by kernel_rfl) Tryd.func3 (by kernel_rfl)
    (of_decide_eq_true (by kernel_rfl)) (by unfold Func.isWrapper; first | (rw [if_pos (by decide +kernel)]; kernel_rfl) | (rw [if_neg (by decide +kernel)]; exact ⟨rfl, rfl⟩))
    (fun os started H enc _ F => by rw [OpenClaim.pre_eq_preRow]; exact lifted os started H enc F)
/-- No parameter wants a stand-in; the program's own looks are off. -/
theorem plain_late (f : FuncId) (fn : Func) (hf : Tryd.pinned.checked.prog.funcNamed "bailee/baileelaw23.PlacingLate" = some f) (hfn : Tryd.pinned.checked.prog.funcs[f]? = some fn) :
    false = Tryd.pinned.checked.prog.looks [] ∧ ∀ (j : Nat) t, fn.params[j]? = some t → Tryd.pinned.checked.prog.wantsStandIn t = false := by
  obtain rfl : f = 3 := Option.some.inj ((show Tryd.prog.funcNamed "bailee/baileelaw23.PlacingLate" = some 3 by kernel_rfl).symm.trans hf) |>.symm
  obtain rfl : fn = Tryd.f3 := (Option.some.inj (Tryd.func3.symm.trans hfn)).symm
  refine ⟨by kernel_rfl, fun j t ht => ?_⟩
  rw [Tryd.params3] at ht
  have ht' := Array.mem_of_getElem? ht
  simp only [List.mem_toArray, List.mem_cons, List.not_mem_nil, or_false] at ht'
  rcases ht' with rfl | rfl
  · exact (show Tryd.prog.wantsStandIn 5 = false by kernel_rfl)
  · exact (show Tryd.prog.wantsStandIn 22 = false by kernel_rfl)
/-- The card. -/
theorem late_card : Rows.PlacingLateCardSaid :=
  Claim7.holds_tied_plain_at .later [] _ _ _ _ late_said (fun _ h => by cases h) (by kernel_rfl) (fun _ h => by cases h) placingLate_row_tie rfl ⟨rfl, rfl⟩ (by kernel_rfl) rfl plain_late (by kernel_rfl)
end Go.Proofs.YtpogpfabnkgkfaaDoor
