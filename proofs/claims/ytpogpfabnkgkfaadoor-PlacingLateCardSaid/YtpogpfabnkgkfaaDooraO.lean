/- proof.split and digests, walked: for one byte or more. -/
import Derived.Test.YtpogpfabnkgkfaaDooraN
namespace Go.Proofs.YtpogpfabnkgkfaaDoor
open Go.RowKit Go.BigFrame Go.Maps Go.Shelf Go.Sort
set_option maxRecDepth 100000

set_option maxHeartbeats 1000000 in
theorem collectB (Bs Bn b off len cap : Nat) (hreach : len ≤ 1099511627776) (hcap : len ≤ cap) (w : World) (hBs0 : Bs < w.heap.size) (hBn0 : Bn < w.heap.size)
    (hBs : w.cell? ⟨Bs, 0, none⟩ = some (.slice (some ⟨b, off, none⟩) len cap)) (hBn : w.cell? ⟨Bn, 0, none⟩ = some (.int .i64 64)) :
    Calls Tryd.prog 72 #[.func (.func 90) #[] #[.pointer (some ⟨Bs, 0, none⟩), .pointer (some ⟨Bn, 0, none⟩)]] w fun e w' =>
      ∃ v, e = .returned v ∧ w'.ownsRow w.heap.size 22 1 v (partsOf len 64) ((List.finRange (partsOf len 64)).map (chunkV b off len)) ∧ Below w.heap.size w w' := by
  have HA := Lib.hid (appendSeqB Bs Bn b off len cap hreach hcap w hBs0 hBn0 hBs hBn)
  clear hBs hBn
  go_enter Tryd.func72, Tryd.ntmps72
  go_wp2_with (go_at_call 89; refine HA.out.mono ?_; rintro e w1 ⟨v, rfl, h1, h2⟩)
  go_ret
  exact ⟨v, rfl, h1, h2⟩

set_option maxHeartbeats 1000000 in
theorem split_any (b off len cap : Nat) (h0 : 0 < len) (hreach : len ≤ 1099511627776) (hcap : len ≤ cap) (w : World) :
    Calls Tryd.prog 61 #[.slice (some ⟨b, off, none⟩) len cap] w fun e w' =>
      ∃ v, e = .returned v ∧ w'.ownsRow w.heap.size 22 1 v (partsOf len 64) ((List.finRange (partsOf len 64)).map (chunkV b off len)) ∧ Below w.heap.size w w' := by
  have d0 : ((len : Int) == 0) = false := by rw [beq_eq_false_iff_ne]; omega
  have d1 : decide ((len : Int) = 0) = false := decide_eq_false (by omega)
  have hB : Below w.heap.size w ((w.alloc (.cells #[.slice (some ⟨b, off, none⟩) len cap] 22)).alloc (.cells #[.int .i64 64] 3)) := ((Below.refl _ _).alloc (Nat.le_refl _) _).alloc (by simp) _
  have c1 : ((w.alloc (.cells #[.slice (some ⟨b, off, none⟩) len cap] 22)).alloc (.cells #[.int .i64 64] 3)).cell? ⟨w.heap.size, 0, none⟩ = some (.slice (some ⟨b, off, none⟩) len cap) := by
    rw [cell_of_row _ _ _ _ _ _ (heap_alloc2_old _ _ _)]; rfl
  have c2 : ((w.alloc (.cells #[.slice (some ⟨b, off, none⟩) len cap] 22)).alloc (.cells #[.int .i64 64] 3)).cell? ⟨w.heap.size + 1, 0, none⟩ = some (.int .i64 64) := by
    rw [cell_of_row _ _ _ _ _ _ (heap_alloc2_new _ _ _)]; rfl
  have HC := Lib.hid (collectB w.heap.size (w.heap.size + 1) b off len cap hreach hcap _ (by simp <;> omega) (by simp <;> omega) c1 c2)
  have HB := Lib.hid hB
  clear hB c1 c2
  go_enter Tryd.func61, Tryd.ntmps61
  go_wp2_with (first
    | (go_at_call 73; refine (chunkB_any _ _ _ _).mono ?_; rintro e w1 ⟨rfl, rfl⟩)
    | (go_at_call 72; refine HC.out.mono ?_; rintro e w2 ⟨v, rfl, h1, h2⟩))
  go_ret
  exact ⟨v, rfl, row_base h1 HB.out.size, HB.out.trans (h2.mono HB.out.size)⟩

/-! The digests of the leaves. -/
def leafAt (bs : List UInt8) (k : Nat) : List UInt8 := (bs.drop (64 * k)).take 64
theorem leafAt_len (bs : List UInt8) (k : Nat) : (leafAt bs k).length = lenAt bs.length 64 k := by simp [leafAt, lenAt]
def rowS (bs : List UInt8) (k : Nat) : List (List UInt8) := (List.range k).map fun i => digS (0 :: leafAt bs i)
theorem rowS_succ (bs : List UInt8) (k : Nat) : rowS bs (k + 1) = rowS bs k ++ [digS (0 :: leafAt bs k)] := by simp [rowS, List.range_succ]
theorem rowS_len (bs : List UInt8) (k : Nat) : (rowS bs k).length = k := by simp [rowS]
def idCells (ids : List (List UInt8)) : List Value := (ids.map cellsOf).flatten
theorem idCells_snoc (ids : List (List UInt8)) (x : List UInt8) : idCells (ids ++ [x]) = idCells ids ++ cellsOf x := by simp [idCells]
theorem own_own_ne {w : World} {base base' e e' size size' n n' : Nat} {v v' : Value} {xs xs' : List Value} (h : w.ownsRow base e size v n xs) (h' : w.ownsRow base' e' size' v' n' xs') (hne : e ≠ e') : v.ownBlock = none ∨ v.ownBlock ≠ v'.ownBlock := by
  rcases h.2 with ⟨rfl, _⟩ | ⟨g, cap, cur, rfl, _, hg, _⟩
  · exact Or.inl rfl
  · exact Or.inr (by have := own_ne h' hg (fun e => hne e.symm); simpa [Value.ownBlock] using this)
structure DgAt (w0 : World) (pv : Value) (m : Nat) (ps : List Value) (ids : List (List UInt8)) (v : Value) (w : World) : Prop where
  row : w.ownsRow w0.heap.size 30 32 v ids.length (idCells ids)
  parts : w.ownsRow w0.heap.size 22 1 pv m ps
  below : Below w0.heap.size w0 w
theorem DgAt.step {w0 w w' : World} {pv : Value} {m : Nat} {ps : List Value} {ids : List (List UInt8)} {v : Value} (k : DgAt w0 pv m ps ids v w) (hb : Below w.heap.size w w') : DgAt w0 pv m ps ids v w' :=
  ⟨row_below k.row hb, row_below k.parts hb, k.below.trans (hb.mono k.below.size)⟩
theorem DgAt.add {w0 w w1 : World} {pv : Value} {m : Nat} {ps : List Value} {ids : List (List UInt8)} {v v' : Value} (k : DgAt w0 pv m ps ids v w) (x : List UInt8) (hown : w1.ownsRow w0.heap.size 30 32 v' (ids.length + 1) (idCells ids ++ cellsOf x)) (hgrow : w.grownBy w1 v.ownBlock) : DgAt w0 pv m ps (ids ++ [x]) v' w1 := by
  refine ⟨?_, k.parts.kept hgrow (own_own_ne k.parts k.row (by decide)), k.below.grown hgrow k.below.size (fun g e => (k.row.lt g e).1)⟩
  rw [idCells_snoc, List.length_append]
  exact hown
theorem builtId (x : List UInt8) (h : x.length = 32) : Tryd.prog.builtSlice 30 1 [(0, .agg (cellsOf x).toArray)] = some (cellsOf x).toArray := by
  have e : ∀ parts, Tryd.prog.builtSlice 30 1 parts = Instr.fill (fun i => some (i * 32, 32)) zeroId.toArray parts := fun parts => by kernel_rfl
  rw [e]
  have e0 := fill_step (fun i => some (i * 32, 32)) 0 0 32 (.agg (cellsOf x).toArray) [] [] zeroId [] rfl (by simp [Value.cells, h]) rfl rfl
  rw [List.append_nil] at e0
  refine e0.trans ?_
  simp [Value.cells, Instr.fill]
theorem Tryd.infoId : (Tryd.prog.info? 30).map (fun i => (i.zero, i.size, i.bytes)) = some (some (.agg zeroId.toArray), 32, 32) := by kernel_rfl
theorem cells_id_new (W : World) (x : List UInt8) : ∀ j u, (cellsOf x)[j]? = some u → (W.alloc (.cells (cellsOf x).toArray 30)).cell? ((⟨W.heap.size, 0, none⟩ : Addr).add j) = some u := fun j u hj => by
  rw [Addr.add_mid, Nat.zero_add, cell_of_row _ _ _ _ _ _ (heap_alloc_new _ _)]
  simpa using hj

/-- Of over a literal of one row of bytes. -/
theorem of_lit (lf : List UInt8) (hll : lf.length ≤ 64) (wr w2 : World) (gb cb : Nat) (hG : GAt wr) (h2 : Below wr.heap.size wr w2) (hr : w2.ownsRow wr.heap.size 5 1 (.slice (some ⟨gb, 0, none⟩) (lf.length + 1) cb) (lf.length + 1) (cellsOf (0 :: lf))) :
    Calls Tryd.prog 53 #[.slice (some ⟨w2.heap.size, 0, none⟩) 1 1] (w2.alloc (.cells #[.slice (some ⟨gb, 0, none⟩) (lf.length + 1) cb] 22)) fun e w' => e = .returned (.agg (cellsOf (digS (0 :: lf))).toArray) ∧ Below w2.heap.size w2 w' := by
  obtain ⟨hc, hlt⟩ := row_cells hr (by omega)
  have hb := (Below.refl w2.heap.size w2).alloc (Nat.le_refl _) (.cells #[.slice (some ⟨gb, 0, none⟩) (lf.length + 1) cb] 22)
  refine (of_one w2.heap.size 0 1 gb 0 cb (0 :: lf) _ ((hG.below h2).below hb) (by simp; omega) (by rw [cell_of_row _ _ _ _ _ _ (heap_alloc_new _ _)]; rfl) (fun j u hj => by rw [World.cell?_alloc_past _ _ _ hlt]; exact hc j u hj) (by simp) (by simp; omega)).mono ?_
  rintro e w' ⟨rfl, h⟩
  exact ⟨rfl, hb.trans (h.mono (by simp))⟩

set_option maxHeartbeats 4000000 in
theorem digests_any (b off cap : Nat) (bs : List UInt8) (h0 : 0 < bs.length) (hreach : bs.length ≤ 1073741824) (hcap : bs.length ≤ cap) (w : World) (hG : GAt w) (hb : b < w.heap.size)
    (hs : ∀ j u, (cellsOf bs)[j]? = some u → w.cell? ⟨b, off + j, none⟩ = some u) :
    Calls Tryd.prog 51 #[.slice (some ⟨b, off, none⟩) bs.length cap] w fun e w' =>
      ∃ v, e = .returned v ∧ w'.ownsRow w.heap.size 30 32 v (partsOf bs.length 64) (idCells (rowS bs (partsOf bs.length 64))) ∧ Below w.heap.size w w' := by
  have HSP := Lib.hid (split_any b off bs.length cap h0 (by omega) hcap w)
  obtain ⟨i0, hi, hz0, hz1, hz2⟩ := info_parts Tryd.infoId
  have hpl := partsOf_le bs.length
  have hpm : 0 < partsOf bs.length 64 := by unfold partsOf; omega
  have HMD : Hid (partsOf bs.length 64 = (bs.length + 63) / 64) := rfl
  have HS := Lib.hid hs
  clear hs
  have HPS : Hid (∀ k, k < partsOf bs.length 64 → ((List.finRange (partsOf bs.length 64)).map (chunkV b off bs.length))[k]? = some (.slice (some ⟨b, off + 64 * k, none⟩) (leafAt bs k).length (leafAt bs k).length)) := fun k hk => by
    rw [leafAt_len]
    simp [chunkV, hk]
  generalize (List.finRange (partsOf bs.length 64)).map (chunkV b off bs.length) = ps at *
  generalize partsOf bs.length 64 = m at *
  go_enter Tryd.func51, Tryd.ntmps51
  go_wp2_with (go_at_call 61; refine HSP.out.mono ?_; rintro e w1 ⟨pv, rfl, h1, h2⟩; obtain ⟨ap, cp, rfl, hap⟩ := row_shape h1; obtain ⟨gp, rfl, _, _⟩ := hap (by omega); have HK0 : Hid (DgAt w (.slice (some ⟨gp, 0, none⟩) m cp) m ps [] (.slice none 0 0) w1) := ⟨World.ownsRow_nil _ _ _ _, h1, h2⟩; clear h1 h2 hap)
  go_loopw [3, 9] (fun sv ix wr => ∃ (k : Nat) (a1 : Option Addr) (c1 : Nat), k ≤ m ∧ ix = .int .i64 k ∧ sv = .slice a1 k c1 ∧ Hid (DgAt w (.slice (some ⟨gp, 0, none⟩) m cp) m ps (rowS bs k) (.slice a1 k c1) wr)) (fun _ ix _ => m - (intOf ix).toNat)
  case atStart => exact ⟨0, none, 0, Nat.zero_le _, rfl, rfl, HK0.out⟩
  case round =>
    obtain ⟨k, a1, c1, hk, rfl, rfl, HK⟩ := hrel
    by_cases hkm : k < m
    · have hpc := (row_cells HK.out.parts (by omega)).1 k _ (HPS.out k hkm)
      rw [Nat.zero_add] at hpc
      have hlc : ∀ j u, (cellsOf (leafAt bs k))[j]? = some u → wr.cell? ⟨b, off + 64 * k + j, none⟩ = some u := fun j u hj => by
        rw [HK.out.below.cell (p := ⟨b, off + 64 * k + j, none⟩) hb, Nat.add_assoc]
        refine HS.out (64 * k + j) u ?_
        unfold leafAt at hj
        rw [← hj]
        unfold cellsOf
        rw [List.getElem?_map, List.getElem?_map, List.getElem?_take, List.getElem?_drop]
        by_cases hj64 : j < 64
        · rw [if_pos hj64]
        · exfalso
          unfold cellsOf at hj
          rw [List.getElem?_map, List.getElem?_take, if_neg hj64] at hj
          cases hj
      have hll : (leafAt bs k).length ≤ 64 := by rw [leafAt_len]; unfold lenAt; omega
      have HBL := Lib.hid (below_any b (off + 64 * k) (leafAt bs k).length (leafAt bs k) wr (by omega) (by have := HK.out.below.size; omega) hlc)
      have HIX := Lib.hid (rowS_succ bs k)
      have hrl := rowS_len bs k
      have HIL := Lib.hid (digS_len (0 :: leafAt bs k))
      have HOF := Lib.hid (fun w2 gb cb h2 hr => of_lit (leafAt bs k) hll wr w2 gb cb (hG.below HK.out.below) h2 hr)
      have HBI := Lib.hid (builtId _ (digS_len (0 :: leafAt bs k)))
      have HI1 := Lib.hid (cells_u8_one (digS (0 :: leafAt bs k)))
      clear hlc
      generalize digS (0 :: leafAt bs k) = dg at *
      generalize leafAt bs k = lf at *
      go_wp2_with (first
        | (go_at_call 62; refine HBL.out.mono ?_; rintro e w2 ⟨v2, rfl, h1, h2⟩; have HB2 := Lib.hid h2; clear h2; obtain ⟨ab, cb, rfl, hab⟩ := row_shape h1; obtain ⟨gb, rfl, _, hgb⟩ := hab (by omega); have HR2 := Lib.hid h1; clear h1 hab)
        | (go_at_call 53; refine (HOF.out _ _ _ HB2.out HR2.out).mono ?_; rintro e w3 ⟨rfl, h3⟩; have HB3 := Lib.hid (HB2.out.trans (h3.mono HB2.out.size)); clear h3; have HK3 := Lib.hid (HK.out.step HB3.out))
        | ((refine Great.wpList_buildSliceTo rfl 36 30 1 _ rfl _ rfl _ rfl Tryd.underlying36 (cellsOf dg).toArray ?_ ?_); (simp only [List.map_toArray, List.map_cons, List.map_nil]; exact HBI.out))
        | (at_builtin; refine wpList_append_own _ rfl (.tmp 13) (.tmp 18) 36 rfl w.heap.size 30 i0 (.agg zeroId.toArray) 32 32 Tryd.underlying36 hi hz0 hz1 hz2 rfl (by decide) _ _ _ rfl (HK3.out.row.alloc _) ⟨w3.heap.size, 0, none⟩ 1 1 (cellsOf dg) rfl (by rw [length_cellsOf, HIL.out]) (cells_id_new _ _) HI1.out (by unfold maxLen; omega) (by omega) (by have := HK3.out.below.size; simp; omega) ?_; intro v' w4 hown hgrow _; have HK4 := Lib.hid ((HK3.out.step ((Below.refl _ _).alloc (Nat.le_refl _) _)).add dg hown hgrow); rw [← HIX.out] at HK4; rw [hrl] at hown; obtain ⟨a4, c4, rfl, _⟩ := row_shape hown; clear hown hgrow))
      go_roundw
      case rel => exact ⟨k + 1, a4, c4, by omega, by go_num, rfl, HK4⟩
      case measure => simp [intOf]; omega
    · obtain rfl : k = m := by omega
      have hr := HK.out.row
      rw [rowS_len] at hr
      have HR := Lib.hid hr
      clear hr
      go_wp2
      go_ret
      exact ⟨_, rfl, HR.out, HK.out.below⟩
end Go.Proofs.YtpogpfabnkgkfaaDoor
