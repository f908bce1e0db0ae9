/- digest.Of of one row of bytes, walked. -/
import Derived.Test.YtpogpfabnkgkfaaDooraH
namespace Go.Proofs.YtpogpfabnkgkfaaDoor
open Go.RowKit Go.BigFrame Go.Maps Go.Shelf Go.Sort
set_option maxRecDepth 100000

theorem row_le {w : World} {base e size n cap : Nat} {a : Option Addr} {xs : List Value} (h : w.ownsRow base e size (.slice a n cap) n xs) : n ≤ cap := by
  rcases h.2 with ⟨e1, e2⟩ | ⟨g, c, cur, e1, _, _, hc, _⟩
  · omega
  · injection e1 with _ _ e3; omega
set_option maxHeartbeats 4000000 in
theorem of_one (b o c bb ob cap : Nat) (l : List UInt8) (w : World) (hG : GAt w) (hlen : l.length ≤ 1099511627776) (hc : w.cell? ⟨b, o, none⟩ = some (.slice (some ⟨bb, ob, none⟩) l.length cap))
    (h : ∀ j u, (cellsOf l)[j]? = some u → w.cell? ⟨bb, ob + j, none⟩ = some u) (hb : b < w.heap.size) (hbb : bb < w.heap.size) :
    Calls Tryd.prog 53 #[.slice (some ⟨b, o, none⟩) 1 c] w fun e w' => e = .returned (.agg (cellsOf (digS l)).toArray) ∧ Below w.heap.size w w' := by
  obtain ⟨i0, hi, hz0, hz1, hz2⟩ := info_parts Tryd.infoByte
  have HJ := Lib.hid (join_one b o c bb ob cap l (w.alloc (.cells zeroId.toArray 30)) (by omega) (by rw [World.cell?_alloc_past _ _ _ hb]; exact hc) (fun j u hj => by rw [World.cell?_alloc_past _ _ _ hbb]; exact h j u hj))
  clear hc h hb hbb
  have u1 : IntKind.u64.wrap ((l.length : Int) * 8) = (l.length : Int) * 8 := by rw [IntKind.wrap_u64]; omega
  have u0 : IntKind.u64.wrap (l.length : Int) = (l.length : Int) := by rw [IntKind.wrap_u64]; omega
  have HB0 := Lib.hid ((Below.refl w.heap.size w).alloc (Nat.le_refl _) (.cells zeroId.toArray 30))
  have HO0 := Lib.hid (heap_alloc_new w (.cells zeroId.toArray 30))
  go_enter Tryd.func53, Tryd.ntmps53
  go_wp2_with (first
    | (go_at_call 65; refine HJ.out.mono ?_; rintro e w1 ⟨v, rfl, h1, h2⟩; have HK0 : Hid (OfAt w l v w1) := ⟨row_base h1 (by simp), HB0.out.trans (h2.mono (by simp)), below_block h2 HO0.out⟩; clear h1 h2; obtain ⟨ao, cp, rfl, _⟩ := row_shape HK0.out.row)
    | (at_builtin; refine wpList_append_own _ rfl (.tmp 15) (.tmp 16) 22 rfl w.heap.size 5 i0 (.int .u8 0) 1 1 Tryd.underlying22 hi hz0 hz1 hz2 rfl (by decide) _ _ _ rfl (HK0.out.row.alloc _) ⟨w1.heap.size, 0, none⟩ 1 1 [.int .u8 128] rfl rfl (c1_u8 _ _ _) (by simp [Value.oneCell']) (by unfold maxLen; omega) (by omega) (by have := HK0.out.below.size; simp; omega) ?_; intro v2 w2 hown hgrow hnil; have HK1 := Lib.hid (HK0.out.add 128 hown hgrow); clear hown hgrow hnil; obtain ⟨ao2, cp2, rfl, _⟩ := row_shape HK1.out.row))
  clear HK0
  go_loopw [3] (fun sv wq => ∃ (xs : List UInt8) (a1 : Option Addr) (c1 : Nat), sv = .slice a1 xs.length c1 ∧ Hid (OfAt w xs (.slice a1 xs.length c1) wq ∧ ∃ k, k ≤ padN l.length ∧ xs = padTo l k)) (fun sv _ => (l.length + 65) - lenV sv)
  case atStart => exact ⟨l ++ [128], ao2, cp2, by rw [List.length_append]; rfl, HK1.out, 0, Nat.zero_le _, by simp [padTo]⟩
  case round =>
    obtain ⟨xs, a1, c1, rfl, HK⟩ := hrel
    have hkp : ∃ k, k ≤ padN l.length ∧ xs.length = l.length + 1 + k ∧ Hid (xs = padTo l k) := by
      obtain ⟨k, hk, e⟩ := HK.out.2
      exact ⟨k, hk, by rw [e, padTo_len], e⟩
    obtain ⟨k, hk, hxl, HX⟩ := hkp
    have hpl := padN_lt l.length
    have hst := pad_stop l.length k hk
    rw [← hxl] at hst
    have hxl2 : xs.length ≤ l.length + 65 := by omega
    have hlk : padN l.length ≠ k → xs.length < l.length + 65 := by omega
    have t0 : Int.tmod (xs.length : Int) 64 = ((xs.length % 64 : Nat) : Int) := by rw [Int.tmod_eq_emod_of_nonneg (by omega)]; omega
    by_cases hkk : k = padN l.length
    · have hm : (((xs.length % 64 : Nat) : Int) != 56) = false := by rw [hst.2 hkk]; rfl
      generalize xs.length % 64 = r at *
      clear hst hlk
      have HXL := Lib.hid hxl
      clear hxl
      go_wp2
      have HK1' : Hid (OfAt w xs (.slice a1 xs.length c1) wr) := HK.out.1
      have HXP : Hid (xs = padTo l (padN l.length)) := by show _ = _; rw [HX.out, hkk]
      clear HK HX hkk HXL hm t0 hk HK1
      obtain ⟨ps, HPS⟩ : ∃ ps, Hid (ps = xs) := ⟨_, rfl⟩
      have hps : ps.length ≤ l.length + 65 := by rw [HPS.out]; exact hxl2
      go_loopw [3, 5] (fun sv cn wq => ∃ (j : Nat) (ys : List UInt8) (a2 : Option Addr) (c2 : Nat), j ≤ 8 ∧ cn = .int .i64 (56 - 8 * (j : Int)) ∧ sv = .slice a2 ys.length c2 ∧ Hid (OfAt w ys (.slice a2 ys.length c2) wq ∧ ys = ps ++ (List.range j).map (beAt (l.length * 8)))) (fun _ cn _ => (intOf cn + 8).toNat)
      case atStart => exact ⟨0, xs, a1, c1, by omega, rfl, rfl, HK1'.out, by rw [HPS.out]; simp⟩
      case round =>
        obtain ⟨j, ys, a2, c2, hj, rfl, rfl, HK⟩ := hrel
        have hyl : ys.length ≤ l.length + 65 + 8 := by
          rw [HK.out.2, List.length_append, List.length_map, List.length_range]; omega
        by_cases hj8 : j < 8
        · have hbv := be_byte (l.length * 8) j
          have es : (56 - 8 * (j : Int)).toNat = 56 - 8 * j := by omega
          rw [← es, show ((l.length * 8 : Nat) : Int) = (l.length : Int) * 8 from by omega] at hbv
          have HY : Hid (ys ++ [beAt (l.length * 8) j] = ps ++ (List.range (j + 1)).map (beAt (l.length * 8))) := by
            show _ = _
            rw [be_succ, HK.out.2, List.append_assoc]
          generalize beAt (l.length * 8) j = cc at *
          have HES : Hid (56 - 8 * (j : Int) - 8 = 56 - 8 * ((j + 1 : Nat) : Int)) := by show _ = _; omega
          clear es
          generalize hsh : 56 - 8 * (j : Int) = sh at *
          have s0 : 0 ≤ sh := by omega
          have s1 : sh ≤ 56 := by omega
          have HSH := Lib.hid hsh
          clear hsh
          go_wp2_with (at_builtin; refine wpList_append_own _ rfl (.tmp 29) (.tmp 34) 22 rfl w.heap.size 5 i0 (.int .u8 0) 1 1 Tryd.underlying22 hi hz0 hz1 hz2 rfl (by decide) _ _ _ rfl (HK.out.1.row.alloc _) ⟨wr.heap.size, 0, none⟩ 1 1 [.int .u8 (cc.toNat : Int)] rfl rfl (c1_u8 _ _ _) (by simp [Value.oneCell']) (by unfold maxLen; omega) (by omega) (by have := HK.out.1.below.size; simp; omega) ?_; intro v2 w2 hown hgrow hnil; have HK2 := Lib.hid (HK.out.1.add cc hown hgrow); clear hown hgrow hnil; obtain ⟨ao3, cp3, rfl, _⟩ := row_shape HK2.out.row)
          go_roundw
          case rel => exact ⟨j + 1, ys ++ [cc], ao3, cp3, by omega, by rw [HES.out], by rw [List.length_append]; rfl, HK2.out, HY.out⟩
          case measure => simp [intOf]; omega
        · obtain rfl : j = 8 := by omega
          have HPD : Hid (ys = padS l) := by
            show _ = _
            rw [HK.out.2, HPS.out, HXP.out]; rfl
          have hyn : ys.length ≠ 0 := by rw [HPD.out, padS_len]; omega
          obtain ⟨a2', c2', e2, hsh⟩ := row_shape HK.out.1.row
          obtain ⟨g, e3, _, hgl⟩ := hsh hyn
          injection e2 with e4 _ e5
          subst e4
          subst e5
          subst e3
          have hym : Hid (ys.length = 64 * (ys.length / 64)) := by
            show _ = _
            have := pad_mod l.length
            rw [HPD.out, padS_len]; omega
          obtain ⟨m, HM⟩ : ∃ m, Hid (m = ys.length / 64) := ⟨_, rfl⟩
          have hym2 : ys.length = 64 * m := by rw [HM.out]; exact hym.out
          clear hym
          have HFS := Lib.hid (fun w3 hb => OfW.start (w3 := w3) HK.out.1 hG hb firstV)
          have HFC := Lib.hid (first_any wr)
          have HW8 : Hid (Tryd.prog.underlying 104 = some (.array 8 103)) := by show _ = _; kernel_rfl
          have HS8 : Hid ((Tryd.prog.info? 104).map (·.size) = some (wordsOf firstV).size) := by show _ = _; kernel_rfl
          have HZ8 : Hid ((wordsOf (List.replicate 8 0)).size = (wordsOf firstV).size) := by show _ = _; rfl
          have HO8 : Hid ((wordsOf firstV).all (·.oneCell') = true) := words_one _
          clear HK
          generalize hfv : wordsOf firstV = fv at *
          have HFV := Lib.hid hfv
          clear hfv
          have HYM := Lib.hid hym2
          clear hym2
          go_wp2_with (first
            | (go_at_call 66; refine HFC.out.mono ?_; rintro e w3 ⟨rfl, hb3⟩; have HB3 := Lib.hid hb3; clear hb3)
            | ((with_reducible refine wpList_store_rowTo rfl 104 _ _ rfl rfl w3.heap.size fv ?_ ?_ 104 (wordsOf (List.replicate 8 0)) ?_ HS8.out HZ8.out HO8.out ?_); (rfl); (rfl); (exact heap_alloc_new _ _); (show wpList _ _ _ _ _ (World.setRow (w3.alloc (.cells (wordsOf (List.replicate 8 0)) 104)) w3.heap.size fv)); (rw [setRow_alloc])))
          have HW3 := Lib.hid (HFS.out w3 HB3.out)
          have HLC := Lib.hid (row_le HW3.out.row)
          clear HFS HFC HO8 HZ8
          obtain ⟨B6, HB6⟩ : ∃ B6, Hid (w3.heap.size = B6) := ⟨_, rfl⟩
          rw [HB6.out] at HW3
          rw [HB6.out]
          go_loopw [3] (fun sv wq => ∃ (i n c : Nat) (a : Option Addr), i ≤ m ∧ n + 64 * i = 64 * m ∧ n ≤ c ∧ sv = .slice a n c ∧ Hid (i < m → a = some ⟨g, 64 * i, none⟩) ∧ Hid (OfW w B6 g c2 ys (runS i firstV ys) wq)) (fun sv _ => lenV sv)
          case atStart => exact ⟨0, ys.length, c2, _, Nat.zero_le _, by rw [HYM.out]; omega, HLC.out, rfl, fun _ => rfl, HW3.out⟩
          case round =>
            obtain ⟨i, n, c, a, him, hnm, hnc, rfl, HA, HW⟩ := hrel
            by_cases hlt : i < m
            · have HAE := HA.out hlt
              subst HAE
              have hn64 : 64 ≤ n := by omega
              have hdl : (ys.drop (64 * i)).length = n := by rw [List.length_drop, HYM.out]; omega
              have HTK := take_any (runS i firstV ys) (runS_len i firstV ys rfl) (ys.drop (64 * i)) g (64 * i) c (by rw [hdl]; exact hn64) (by rw [hdl]; exact hnc) wr HW.out.g0 (by have := (HW.out.row.lt g rfl).2; exact this) (HW.out.cells (64 * i))
              rw [hdl, ← runS_snoc] at HTK
              have HTK := Lib.hid HTK
              have hn0 : (0 : Int) < (n : Int) := by omega
              have hn1 : (64 : Int) ≤ (n : Int) := by omega
              have HSA : Hid ((Tryd.prog.info? 104).map (·.size) = some (wordsOf (runS i firstV ys)).size) := by show _ = _; rw [words_size, runS_len i firstV ys rfl]; kernel_rfl
              have HSB : Hid ((Tryd.prog.info? 104).map (·.size) = some (wordsOf (runS (i + 1) firstV ys)).size) := by show _ = _; rw [words_size, runS_len _ firstV ys rfl]; kernel_rfl
              have HSC : Hid ((wordsOf (runS i firstV ys)).size = (wordsOf (runS (i + 1) firstV ys)).size) := by show _ = _; rw [words_size, words_size, runS_len _ firstV ys rfl, runS_len _ firstV ys rfl]
              have HSD : Hid ((wordsOf (runS (i + 1) firstV ys)).all (·.oneCell') = true) := words_one _
              generalize hri : runS i firstV ys = ri at *
              have HRI := Lib.hid hri
              clear hri
              generalize hrj : runS (i + 1) firstV ys = rj at *
              have HRJ := Lib.hid hrj
              clear hrj
              have HIJ : Hid (64 * i + 64 = 64 * (i + 1)) := by show _ = _; omega
              have HNE : Hid (c = 64 → ¬ i + 1 < m) := fun e => by omega
              clear HA hdl
              by_cases hc64 : c = 64
              · subst hc64
                go_wp2_with (first
                  | ((refine wpList_load_row rfl 104 _ rfl B6 ?_ 104 (wordsOf ri) (0, 0) _ ?_ HW8.out rfl HSA.out ?_); (rfl); (exact HW.out.s))
                  | (go_at_call 67; refine HTK.out.mono ?_; rintro e w4 ⟨rfl, hb4⟩; have HW4 := Lib.hid (HW.out.step hb4); clear hb4)
                  | ((with_reducible refine wpList_store_rowTo rfl 104 _ _ rfl rfl B6 (wordsOf rj) ?_ ?_ 104 (wordsOf ri) ?_ HSB.out HSC.out HSD.out ?_); go_must ((rfl); (rfl); (exact HW4.out.s))))
                go_roundw
                case rel => exact ⟨i + 1, 0, 0, _, by omega, by omega, by omega, rfl, fun e => absurd e (HNE.out trivial), by rw [HRJ.out]; exact Lib.hid (HW4.out.put rj)⟩
                case measure => simp [lenV]; omega
              · have hc64' : (64 : Int) ≠ (c : Int) := by omega
                go_wp2_with (first
                  | ((refine wpList_load_row rfl 104 _ rfl B6 ?_ 104 (wordsOf ri) (0, 0) _ ?_ HW8.out rfl HSA.out ?_); (rfl); (exact HW.out.s))
                  | (go_at_call 67; refine HTK.out.mono ?_; rintro e w4 ⟨rfl, hb4⟩; have HW4 := Lib.hid (HW.out.step hb4); clear hb4)
                  | ((with_reducible refine wpList_store_rowTo rfl 104 _ _ rfl rfl B6 (wordsOf rj) ?_ ?_ 104 (wordsOf ri) ?_ HSB.out HSC.out HSD.out ?_); go_must ((rfl); (rfl); (exact HW4.out.s))))
                go_roundw
                case rel => exact ⟨i + 1, n - 64, c - 64, _, by omega, by omega, by omega, rfl, fun _ => by rw [HIJ.out], by rw [HRJ.out]; exact Lib.hid (HW4.out.put rj)⟩
                case measure => simp [lenV]; omega
            · obtain rfl : i = m := by omega
              obtain rfl : n = 0 := by omega
              have HW' : Hid (OfW w B6 g c2 ys (runS (ys.length / 64) firstV ys) wr) := by rw [← HM.out]; exact HW
              have HDG : Hid (digS l = outA (runS (ys.length / 64) firstV ys) 32) := by show _ = _; rw [HPD.out]; rfl
              have hrl := runS_len (ys.length / 64) firstV ys rfl
              generalize runS (ys.length / 64) firstV ys = hs at *
              have HO0 := Lib.hid (OfO.start HW'.out)
              rw [← outA_zero hs] at HO0
              clear HW HW' HYM HM HK1' HPS HXP
              go_wp2_with fail
              obtain ⟨wo, rfl⟩ : ∃ wo : World, wo = wr := ⟨_, rfl⟩
              go_loopw [45] (fun cn wq => ∃ t : Nat, t ≤ 32 ∧ cn = .int .i64 t ∧ Hid (OfO w B6 wo.heap.size hs (outA hs t) wq)) (fun cn _ => 32 - (intOf cn).toNat)
              case atStart => exact ⟨0, Nat.zero_le _, rfl, HO0⟩
              case round =>
                obtain ⟨t, ht, rfl, HO⟩ := hrel
                by_cases htl : t < 32
                · have cs := words_cell HO.out.s (j := t / 4) (by rw [hrl]; omega)
                  have fo := frozen_of_row _ _ t _ _ HO.out.o
                  obtain ⟨uo, co⟩ : ∃ u, wr.cell? ⟨wo.heap.size, t, none⟩ = some u := by
                    rw [cell_of_row _ _ _ _ _ _ HO.out.o]
                    exact ⟨_, Array.getElem?_eq_getElem (by rw [List.size_toArray, length_cellsOf, outA_len]; exact htl)⟩
                  have HN := Lib.hid (HO.out.set t (outAt hs t))
                  rw [outA_set hs t htl] at HN
                  have hby := byte_of (hs.getD (t / 4) 0 / 2 ^ (24 - t % 4 * 8))
                  have HBY : Hid ((hs.getD (t / 4) 0 / 2 ^ (24 - t % 4 * 8)) % 256 = ((outAt hs t).toNat : Int)) := by show _ = _; rw [hby]; rfl
                  clear hby
                  have td : Int.tdiv (t : Int) 4 = ((t / 4 : Nat) : Int) := by rw [Int.tdiv_eq_ediv_of_nonneg (by omega)]; omega
                  have tm : Int.tmod (t : Int) 4 = ((t % 4 : Nat) : Int) := by rw [Int.tmod_eq_emod_of_nonneg (by omega)]; omega
                  have ed : (t : Int) / 4 = ((t / 4 : Nat) : Int) := by omega
                  have em : (t : Int) % 4 = ((t % 4 : Nat) : Int) := by omega
                  have q1 : t / 4 < 8 := by omega
                  have r1 : t % 4 < 4 := by omega
                  generalize hs.getD (t / 4) 0 = xw at *
                  generalize t / 4 = q4 at *
                  generalize t % 4 = r4 at *
                  generalize outAt hs t = cc at *
                  have v1 : IntKind.i64.wrap ((r4 : Int) * 8) = (r4 : Int) * 8 := by rw [IntKind.wrap_i64]; omega
                  have v2 : IntKind.i64.wrap (24 - (r4 : Int) * 8) = 24 - (r4 : Int) * 8 := by rw [IntKind.wrap_i64]; omega
                  have p0 : (0 : Int) ≤ 24 - (r4 : Int) * 8 := by omega
                  have p1 : 24 - (r4 : Int) * 8 ≤ 32 := by omega
                  have tn : (24 - (r4 : Int) * 8).toNat = 24 - r4 * 8 := by omega
                  have q0 : (0 : Int) ≤ (q4 : Int) := by omega
                  have q2 : (q4 : Int) < 8 := by omega
                  have t0 : (0 : Int) ≤ (t : Int) := by omega
                  have t1 : (t : Int) < 32 := by omega
                  have hby := HBY.out
                  go_wp2
                  go_roundw
                  case rel => exact ⟨t + 1, by omega, by go_num, by first | exact HN | exact Lib.hid (HN.out.drewN 1)⟩
                  case measure => simp [intOf]; omega
                · obtain rfl : t = 32 := by omega
                  have HIA : Hid ((Tryd.prog.info? 30).map (·.size) = some (cellsOf (outA hs 32)).toArray.size) := by show _ = _; rw [List.size_toArray, length_cellsOf, outA_len]; kernel_rfl
                  have HIO : Hid (zeroId.toArray.size = (cellsOf (outA hs 32)).toArray.size) := by show _ = _; rw [List.size_toArray, List.size_toArray, length_cellsOf, outA_len]; rfl
                  have HI1 : Hid (((cellsOf (outA hs 32)).toArray).all (·.oneCell') = true) := cellsOf_one _
                  generalize houp : (cellsOf (outA hs 32)).toArray = cs at *
                  have HCS := Lib.hid houp
                  clear houp
                  go_wp2_with (first
                    | ((refine wpList_load_row rfl 30 _ rfl wo.heap.size ?_ 30 cs (0, 0) _ ?_ Tryd.undId rfl HIA.out ?_); (rfl); (rw [← HCS.out]; exact HO.out.o))
                    | ((with_reducible refine wpList_store_rowTo rfl 30 _ _ rfl rfl w.heap.size cs ?_ ?_ 30 zeroId.toArray ?_ HIA.out HIO.out HI1.out ?_); go_must ((rfl); (rfl); (exact HO.out.out))))
                  refine bodyPost_ret (results_cell_row rfl _ _ w.heap.size 30 cs (0, 0) _ rfl (setRow_heap _ _ _ _ _ _ HO.out.out) Tryd.undId rfl HIA.out) rfl ⟨by rw [HDG.out, HCS.out], ?_⟩
                  exact HO.out.below.trans ⟨rfl, rfl, rfl, by simp [World.setRow], fun i hi => setRow_other _ _ i _ (by omega)⟩
    · have hm : (((xs.length % 64 : Nat) : Int) != 56) = true := by
        have : xs.length % 64 ≠ 56 := fun e => hkk (hst.1 e)
        rw [bne_iff_ne]; omega
      have hlt := hlk (fun e => hkk e.symm)
      generalize xs.length % 64 = r at *
      clear hst hlk
      have HXL := Lib.hid hxl
      clear hxl
      go_wp2_with (at_builtin; refine wpList_append_own _ rfl (.tmp 22) (.tmp 23) 22 rfl w.heap.size 5 i0 (.int .u8 0) 1 1 Tryd.underlying22 hi hz0 hz1 hz2 rfl (by decide) _ _ _ rfl (HK.out.1.row.alloc _) ⟨wr.heap.size, 0, none⟩ 1 1 [.int .u8 0] rfl rfl (c1_u8 _ _ _) (by simp [Value.oneCell']) (by unfold maxLen; omega) (by omega) (by have := HK.out.1.below.size; simp; omega) ?_; intro v2 w2 hown hgrow hnil; have HK2 := Lib.hid (HK.out.1.add 0 hown hgrow); clear hown hgrow hnil; obtain ⟨ao3, cp3, rfl, _⟩ := row_shape HK2.out.row)
      go_roundw
      case rel => exact ⟨xs ++ [0], ao3, cp3, by rw [List.length_append]; rfl, HK2.out, k + 1, by omega, by rw [padTo_succ, HX.out]⟩
      case measure => simp [lenV]; omega
end Go.Proofs.YtpogpfabnkgkfaaDoor
