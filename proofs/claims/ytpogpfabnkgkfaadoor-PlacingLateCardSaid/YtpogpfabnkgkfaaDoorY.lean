/- The law's main road, walked: for one to two hundred bytes. -/
import Derived.Test.YtpogpfabnkgkfaaDoorX
namespace Go.Proofs.YtpogpfabnkgkfaaDoor
open Go.RowKit Go.BigFrame Go.Maps Go.Shelf Go.Sort
set_option maxRecDepth 100000

theorem ints_succ (k : Nat) : (ints (k + 1)).map (Value.int .i64) = (ints k).map (Value.int .i64) ++ [.int .i64 k] := by simp [ints, List.range_succ]
theorem law_new (w0 w : World) (N g cap : Nat) (hN : N ≤ 10) (hB : Below w0.heap.size w0 w) (hr : w.ownsRow w0.heap.size 3 1 (.slice (some ⟨g, 0, none⟩) N cap) N ((ints N).map (Value.int .i64))) (h1 : 1 ≤ N) :
    Calls Tryd.prog 5 #[.int .i64 1, .slice (some ⟨g, 0, none⟩) N cap] w fun e w' => ∃ L : PL, e = .returned (.tuple #[.pointer (some ⟨L.pb, 0, none⟩), .int .i64 0]) ∧ AwAt w0 w' L ⟨1, ints N, []⟩ ∧ L.ws = [] := by
  obtain ⟨hc, hg⟩ := row_cells hr (by omega)
  have e := new_any 1 (ints N) g 0 cap w ⟨by decide, by decide⟩ (ints_nodes N (by omega)) (ints_sorted N) (by rw [ints_len]; omega) (fun j hj => by
    rw [ints_len] at hj
    exact hc j _ (by simp [List.getD, ints, hj])) hg
  rw [ints_len] at e
  refine e.mono ?_
  rintro e w' ⟨L, h1, h2, h3, h4, h5⟩
  exact ⟨L, h1, ⟨h2, ⟨Nat.le_trans hB.size h4.1, fun g e => Nat.le_trans hB.size (h4.2.1 g e), fun l e => Nat.le_trans hB.size (h4.2.2 l e)⟩, hB.trans (h5.mono hB.size)⟩, h3⟩
theorem law_next (w0 w : World) (L : PL) (M M' : PM) (now : Int) (o : Off) (h : AwAt w0 w L M) (hl : M.ws.length = 1) (hn : 0 ≤ now ∧ now ≤ 18446744073709551615) (he : nextTo now M 1 = (M', [o])) :
    Calls Tryd.prog 7 #[.pointer (some ⟨L.pb, 0, none⟩), .int .u64 now] w fun e w' => ∃ g cap, e = .returned (.slice (some ⟨g, 0, none⟩) 1 cap) ∧ AwAt w0 w' L M' ∧ w'.ownsRow 0 40 38 (.slice (some ⟨g, 0, none⟩) 1 cap) 1 (offCells o) ∧ Only (inMaps L) w w' := by
  refine (next_any L M now hn.1 hn.2 w h.pat).mono ?_
  rintro e w' ⟨v, h1, h2, h3, h4⟩
  rw [hl, he] at h2 h3
  obtain ⟨ao, cap, rfl, hao⟩ := row_shape h3
  obtain ⟨g, rfl, _, _⟩ := hao (by simp)
  exact ⟨g, cap, h1, h.turn h2 h4, row_base (by simpa using h3) (Nat.zero_le _), h4⟩
theorem law_next0 (w0 w : World) (L : PL) (M M' : PM) (now : Int) (h : AwAt w0 w L M) (hl : M.ws.length = 1) (hn : 0 ≤ now ∧ now ≤ 18446744073709551615) (he : nextTo now M 1 = (M', [])) :
    Calls Tryd.prog 7 #[.pointer (some ⟨L.pb, 0, none⟩), .int .u64 now] w fun e w' => ∃ a cap, e = .returned (.slice a 0 cap) ∧ AwAt w0 w' L M' := by
  refine (next_any L M now hn.1 hn.2 w h.pat).mono ?_
  rintro e w' ⟨v, h1, h2, h3, h4⟩
  rw [hl, he] at h2 h3
  obtain ⟨ao, cap, rfl, hao⟩ := row_shape h3
  exact ⟨ao, cap, h1, h.turn h2 h4⟩
theorem offer_cell {w : World} {g cap : Nat} {o : Off} (h : w.ownsRow 0 40 38 (.slice (some ⟨g, 0, none⟩) 1 cap) 1 (offCells o)) : w.cell? ⟨g, 0, none⟩ = some (.int .i64 o.who) := by
  have e := h.cells (g := g) rfl 0 (.int .i64 o.who) rfl
  rwa [Addr.add_mid, Nat.zero_add] at e

theorem offer_range {w : World} {g cap : Nat} {o : Off} (h : w.ownsRow 0 40 38 (.slice (some ⟨g, 0, none⟩) 1 cap) 1 (offCells o)) : w.rangeAt g 1 (noteCells 1 o.id o.n (.slice none 0 0)) := fun j v hj => by
  have e := h.cells (g := g) rfl (1 + j) v (by rw [Nat.add_comm]; exact hj)
  rwa [Addr.add_mid, Nat.zero_add] at e
theorem wpList_load_midG {P : Program} {ops : Array Oper} {rest : List Oper} {op : Oper} {a : Act} {w : World} {Q : Exit → Act → World → Prop} (hw : Region.wanted op (yielded ops a.tmps) = true) (ty : TypeId) (x : Operand) (ho : op.op = .load ty x)
    (b o : Nat) (hx : a.eval x = .pointer (some ⟨b, o, none⟩)) (cs : List Value) (d : TypeDesc) (hc : w.rangeAt b o cs)
    (hu : P.underlying ty = some d) (hd : d.isRow = true) (hi : (P.info? ty).map (·.size) = some cs.length)
    (h : wpList P ops Q rest (a.put op.dst (.agg cs.toArray)) w) : wpList P ops Q (op :: rest) a w :=
  wpList_step fun _ hK => by rw [if_pos hw]; exact wp_load_mid ty x ho b o hx cs d hc hu hd hi (hK _ _ h)
structure AwR (w0 w : World) (L : PL) (g cap : Nat) (o : Off) : Prop where
  below : Below w0.heap.size w0 w
  row : w.ownsRow 0 40 38 (.slice (some ⟨g, 0, none⟩) 1 cap) 1 (offCells o)
theorem AwR.step {w0 w w' : World} {L : PL} {g cap : Nat} {o : Off} (h : AwR w0 w L g cap o) (hb : Below w.heap.size w w') : AwR w0 w' L g cap o := ⟨h.below.trans (hb.mono h.below.size), row_below h.row hb⟩

set_option maxHeartbeats 8000000 in
theorem late_main (G : World → Prop) (f : List UInt8 → List UInt8) (hf : IdSays G f) (n : Nat) (b : List UInt8) (bb o cap : Nat) (hb0 : 1 ≤ b.length) (hb1 : b.length ≤ 200) (w : World) (hG : G w)
    (hs : ∀ j u, (cellsOf b)[j]? = some u → w.cell? ⟨bb, o + j, none⟩ = some u) (hbb : bb < w.heap.size) (hcap : b.length ≤ cap) :
    Calls Tryd.prog 3 #[.int .u8 n, .slice (some ⟨bb, o, none⟩) b.length cap] w fun e w' => e = .returned (.bool true) ∧ Below w.heap.size w w' := by
  have d1 : decide ((b.length : Int) = 0) = false := decide_eq_false (by omega)
  have d1' : ((b.length : Int) == 0) = false := by rw [beq_eq_false_iff_ne]; omega
  have d2 : decide ((200 : Int) < (b.length : Int)) = false := decide_eq_false (by omega)
  have HAW := Lib.hid (awake_any G f hf w hG)
  have HNE : Hid (((n : Int) % 10 + 1) = ((n % 10 + 1 : Nat) : Int)) := by show _ = _; omega
  have hN1 : 1 ≤ n % 10 + 1 := by omega
  have hN2 : n % 10 + 1 ≤ 10 := by omega
  obtain ⟨i0, hi, hz0, hz1, hz2⟩ := info_parts Tryd.infoInt
  go_enter Tryd.func3, Tryd.ntmps3
  go_wp2_with (first
    | (go_at_call 4; refine HAW.out.mono ?_; rintro e w1 ⟨rfl, hb⟩; have HB1 := Lib.hid hb; clear hb))
  rw [HNE.out]
  generalize n % 10 + 1 = N at *
  clear HNE
  go_loopw [7, 8] (fun v cn wr => ∃ k : Nat, k ≤ N ∧ cn = .int .i64 k ∧ Hid (wr.ownsRow w.heap.size 3 1 v k ((ints k).map (Value.int .i64))) ∧ Hid (Below w.heap.size w wr)) (fun _ cn _ => N - (intOf cn).toNat)
  case atStart => exact ⟨0, Nat.zero_le _, rfl, World.ownsRow_nil _ _ _ _, HB1⟩
  case round =>
    obtain ⟨k, hk, rfl, HO, HS⟩ := hrel
    by_cases hlt : k < N
    · go_wp2_with (at_builtin; refine wpList_append_own _ rfl (.tmp 40) (.tmp 42) 24 rfl w.heap.size 3 i0 (.int .i64 0) 1 8 Tryd.underlying24 hi hz0 hz1 hz2 rfl (by decide) _ _ _ rfl (HO.out.alloc _) ⟨wr.heap.size, 0, none⟩ 1 1 [.int .i64 k] rfl rfl (c1_int _ _ _) ?c2 ?c3 ?c4 ?c5 ?_)
      case c2 => intro u hu; simp at hu; subst hu; rfl
      case c3 => unfold maxLen; omega
      case c4 => omega
      case c5 => have := HS.out.size; simp only [World.size_alloc]; omega
      intro v' w3 hown hgrow _
      have HO3 : Hid (w3.ownsRow w.heap.size 3 1 v' (k + 1) ((ints (k + 1)).map (Value.int .i64))) := by show World.ownsRow _ _ _ _ _ _ _; rw [ints_succ]; exact hown
      have hb3 := Lib.hid ((HS.out.alloc HS.out.size _).grown hgrow (by have := HS.out.size; simp only [World.size_alloc]; omega) (fun j e => (HO.out.lt j e).1))
      clear hown hgrow
      go_wp2
      go_roundw
      case rel => exact ⟨k + 1, by omega, by go_num, HO3, hb3⟩
      case measure => simp [intOf]; omega
    · obtain rfl : k = N := by omega
      obtain ⟨ao, cp, rfl, hao⟩ := row_shape HO.out
      obtain ⟨g, rfl, _, _⟩ := hao (by omega)
      have HNW := Lib.hid (law_new w wr k g cp hN2 HS.out HO.out hN1)
      have HY : Hid ((f b).length = 32) := hf.1 b
      have HX : Hid ((Tryd.prog.info? 30).map (·.size) = some (cellsOf (f b)).toArray.size) := by show _ = _; rw [Tryd.sizeId]; simp [HY.out]
      have HZ : Hid (zeroId.toArray.size = (cellsOf (f b)).toArray.size) := by show _ = _; simp [HY.out, zeroId]
      have HOC : Hid (((cellsOf (f b)).toArray).all (·.oneCell') = true) := by
        show _ = _
        simp only [List.all_toArray, List.all_eq_true]
        exact oneCell_cellsOf (f b)
      have HWN := Lib.hid (fun w1 L (h : AwAt w w1 L ⟨1, ints k, []⟩) (hL : L.ws = []) => aw_want G f hf w w1 hG 1 (ints k) L b bb o cap h hL hb0 (by omega) (fun j u hj => by rw [h.below.cell (p := ⟨bb, o + j, none⟩) hbb]; exact hs j u hj) (by have := h.below.size; omega) hcap)
      clear HAW HO hao hs
      generalize hy : f b = y at *
      clear hy
      go_wp2_with (first
        | (go_at_call 5; refine HNW.out.mono ?_; rintro e w1 ⟨L, rfl, hp, hl⟩; have H1 := Lib.hid hp; have HL := Lib.hid hl; clear hp hl)
        | (go_at_call 6; refine (HWN.out _ _ H1.out HL.out).mono ?_; rintro e w2 ⟨L', rfl, hp, hl⟩; have H2 : Hid (AwAt w (w2.alloc (.cells (cellsOf y).toArray 30)) L' (mL k y b 0)) := hp.step ((Below.refl _ _).alloc (Nat.le_refl _) _); rw [← hl]; clear hp hl)
        | ((with_reducible refine wpList_store_rowTo rfl 30 _ _ rfl rfl w2.heap.size (cellsOf y).toArray ?_ ?_ 30 zeroId.toArray ?_ HX.out HZ.out HOC.out ?_); (rfl); (rfl); (exact heap_alloc_new _ _); (show wpList _ _ _ _ _ (World.setRow (w2.alloc (.cells zeroId.toArray 30)) w2.heap.size (cellsOf y).toArray)); (rw [setRow_alloc])))
      have H2' := H2
      clear H1 HL HNW HWN hi hz0 hz1 hz2
      go_loopw [13, 14, 15] (fun cn _ _ wr => ∃ i : Nat, i ≤ k ∧ cn = .int .i64 i ∧ Hid (AwAt w wr L' (mL k y b i))) (fun cn _ _ _ => k - (intOf cn).toNat)
      case atStart => exact ⟨0, Nat.zero_le _, rfl, H2⟩
      case round =>
        obtain ⟨i, hi, rfl, HI⟩ := hrel
        by_cases hil : i < k
        · have HST : Hid (nextTo ((i : Int) * 8) (mL k y b i) 1 = (mL k y b (i + 1), [⟨i, y, b.length⟩])) := by
            have e := late_step y b k i hN2 hil
            rwa [show ((i * 8 : Nat) : Int) = (i : Int) * 8 from by omega] at e
          have HQU : Hid (nextTo ((i : Int) * 8 + 7) (mL k y b (i + 1)) 1 = (mL k y b (i + 1), [])) := by
            have e := late_quiet y b k i hN2 hil
            rwa [show ((i * 8 + 7 : Nat) : Int) = (i : Int) * 8 + 7 from by omega] at e
          have HNX1 := Lib.hid (law_next w wr L' (mL k y b i) (mL k y b (i + 1)) ((i : Int) * 8) ⟨i, y, b.length⟩ HI.out rfl (by omega) HST.out)
          have HNX2 := Lib.hid (fun w3 (h : AwAt w w3 L' (mL k y b (i + 1))) => law_next0 w w3 L' (mL k y b (i + 1)) (mL k y b (i + 1)) ((i : Int) * 8 + 7) h rfl (by omega) HQU.out)
          go_upto_region 21 with (go_at_call 7; refine HNX1.out.mono ?_; rintro e w3 ⟨g3, cap3, rfl, hp, hr, _⟩; have H3 := Lib.hid hp; have hc3 : w3.cell? ⟨g3, 0, none⟩ = some (.int .i64 i) := offer_cell hr; clear hp hr)
          clear HNX1
          go_wp2_with (go_at_call 7; refine (HNX2.out _ H3.out).mono ?_; rintro e w4 ⟨a4, cap4, rfl, hp⟩; have H4 := Lib.hid hp; clear hp)
          go_roundw
          case rel => exact ⟨i + 1, by omega, by go_num, H4⟩
          case measure => simp [intOf]; omega
        · obtain rfl : i = k := by omega
          have HLA : Hid (nextTo ((i : Int) * 8) (mL i y b i) 1 = (mF i y b, [])) := by
            have e := late_last y b i hN2 hN1
            rwa [show ((i * 8 : Nat) : Int) = (i : Int) * 8 from by omega] at e
          have hag : ∃ mE, nextTo ((i : Int) * 8 + 1) (mR i y b) 1 = (mE, [⟨0, y, b.length⟩]) := by
            have e := late_again y b i hN2 hN1
            rw [show ((i * 8 + 1 : Nat) : Int) = (i : Int) * 8 + 1 from by omega] at e
            exact ⟨_, Prod.ext rfl e⟩
          obtain ⟨mE, hag⟩ := hag
          have HAG := Lib.hid hag
          clear hag
          have HRE := Lib.hid (late_retry y b i hN2 hN1)
          obtain ⟨fs, hfs⟩ := Tryd.undNote
          have HFSs := Lib.hid hfs
          clear hfs
          have HSZN : Hid ((Tryd.prog.info? 38).map (·.size) = some (noteCells 1 y b.length (.slice none 0 0)).length) := by show _ = _; rw [Tryd.sizeNote, length_noteCells _ _ _ _ HY.out]
          have HXZ : Hid ((Tryd.prog.info? 30).map (·.size) = some zeroId.toArray.size) := Tryd.sizeId
          have HOZ := Lib.hid oneCell_zero
          have HHN := Lib.hid (fun w' => handle_nil 0 1 ⟨1, y, b.length, 0, .slice none 0 0, .slice none 0 0⟩ HY.out w')
          have HFN := Lib.hid (fun w' => forget_nil (List.replicate 32 0) rfl w')
          have HNX1 := Lib.hid (law_next0 w wr L' (mL i y b i) (mF i y b) ((i : Int) * 8) HI.out rfl (by omega) HLA.out)
          have HNX2 := Lib.hid (fun w3 (h : AwAt w w3 L' (mR i y b)) => law_next w w3 L' (mR i y b) mE ((i : Int) * 8 + 1) ⟨0, y, b.length⟩ h rfl (by omega) HAG.out)
          go_upto_region 26 with (first
            | (go_at_call 7; refine HNX1.out.mono ?_; rintro e w3 ⟨a3, cap3, rfl, hp⟩; have H3 := Lib.hid hp; clear hp)
            | (go_at_call 8; refine (retry_any L' _ _ (by exact H3.out.pat)).mono ?_; rintro e w4 ⟨rfl, hp, ho⟩; have H4 : Hid (AwAt w w4 L' (mR i y b)) := (by have e := H3.out.turn hp ho; rw [show retryTo (mF i y b) (mF i y b).ws.length = mR i y b from HRE.out] at e; exact e); clear hp ho))
          clear HNX1
          go_upto_region 28 with (first
            | (go_at_call 7; refine (HNX2.out _ H4.out).mono ?_; rintro e w5 ⟨g5, cap5, rfl, hp, hr, _⟩; have H5 : Hid (AwR w w5 L' g5 cap5 ⟨0, y, b.length⟩) := ⟨hp.below, hr⟩; clear hp hr)
            )
          have HST : ∀ (wq : World) (rest : List Oper) (ops : Array Oper) (Q : Exit → Act → World → Prop) (op : Oper) (a : Act), op.guard = none → op.op = .store 30 (.tmp 18) (.tmp 110) → op.dst = none → a.eval (.tmp 18) = .pointer (some ⟨wq.heap.size, 0, none⟩) → a.eval (.tmp 110) = .agg zeroId.toArray → wpList Tryd.prog ops Q rest a (wq.alloc (.cells zeroId.toArray 30)) → wpList Tryd.prog ops Q (op :: rest) a (wq.alloc (.cells zeroId.toArray 30)) := fun wq rest ops Q op a h1 h2 h3 h4 h5 h6 =>
            wpList_store_rowTo h1 30 _ _ h2 h3 wq.heap.size zeroId.toArray h4 h5 30 zeroId.toArray (heap_alloc_new _ _) HXZ.out rfl HOZ.out (by rw [setRow_alloc]; exact h6)
          have HSTH := Lib.hid HST
          clear HST
          go_upto_region 30 with (first
            | (go_at_call 6; refine (want_nil _ _).mono ?_; rintro e w6 ⟨rfl, hb⟩; have H6 := Lib.hid ((H5.out.step hb).step ((Below.refl _ _).alloc (Nat.le_refl _) (.cells zeroId.toArray 30))); clear hb)
            | (refine HSTH.out w6 _ _ _ _ _ rfl rfl rfl rfl rfl ?_)
            | (go_at_call 8; refine (retry_nil _).mono ?_; rintro e w7 ⟨rfl, rfl⟩))
          have hc6 : (w6.alloc (.cells zeroId.toArray 30)).cell? ⟨g5, 0, none⟩ = some (.int .i64 0) := offer_cell H6.out.row
          generalize w6.alloc (.cells zeroId.toArray 30) = wz at *
          go_wp2_with (first
            | (go_at_call 7; refine (next_nil _ _).mono ?_; rintro e w7 ⟨rfl, hb⟩; have H7 := Lib.hid (H6.out.step hb); clear hb)
            | ((refine wpList_load_midG rfl 38 _ rfl g5 1 ?_ (noteCells 1 y b.length (.slice none 0 0)) _ ?_ HFSs.out rfl HSZN.out ?_); (rfl); (exact offer_range H7.out.row))
            | (go_at_call 9; refine (HHN.out _).mono ?_; rintro e w8 ⟨rfl, hb⟩; have H8 := Lib.hid (H7.out.step hb); clear hb)
            | (go_at_call 10; refine (packs_nil _).mono ?_; rintro e w9 ⟨rfl, hb⟩; have H9 := Lib.hid (H8.out.step hb); clear hb)
            | (go_at_call 11; refine (gone_nil _ _).mono ?_; rintro e w10 ⟨rfl, hb⟩; have H10 := Lib.hid (H9.out.step hb); clear hb)
            | (go_at_call 12; refine (join_nil _ _).mono ?_; rintro e w11 ⟨rfl, hb⟩; have H11 := Lib.hid (H10.out.step hb); clear hb)
            | (go_at_call 13; refine (HFN.out _).mono ?_; rintro e w12 ⟨rfl, hb⟩; have H12 := Lib.hid (H11.out.step hb); clear hb))
          go_ret
          exact ⟨rfl, H12.out.below⟩
end Go.Proofs.YtpogpfabnkgkfaaDoor
