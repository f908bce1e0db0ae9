/- digest.take, walked: for eight words and sixty-four bytes or more. -/
import Derived.Test.YtpogpfabnkgkfaaDooraE
namespace Go.Proofs.YtpogpfabnkgkfaaDoor
open Go.RowKit Go.BigFrame Go.Maps Go.Shelf Go.Sort
set_option maxRecDepth 100000

theorem words_one (l : List Int) : (wordsOf l).all (·.oneCell') = true := by
  simp only [wordsOf, List.all_toArray, List.all_eq_true]
  intro u hu
  obtain ⟨x, _, rfl⟩ := List.mem_map.1 hu
  rfl
theorem index_words (l : List Int) (hl : l.length = 64) (n : Nat) (hn : n < 64) (wq : World) : (Instr.index 119 (.agg (wordsOf l)) (.int .i64 (n : Int))).run Tryd.prog wq = .ok (.int .u32 (l.getD n 0)) wq := by
  have h1 : Tryd.prog.underlying 119 = some (.array 64 103) := by kernel_rfl
  have h2 : Tryd.prog.underlying 103 = some (.int .u32) := by kernel_rfl
  have hv : (wordsOf l)[n]? = some (.int .u32 (l.getD n 0)) := by simp [wordsOf, List.getD, hl, hn]
  have h4 : Tryd.t103.size = 1 := by kernel_rfl
  simp only [List.getD_eq_getElem?_getD] at hv
  simp [Instr.index, run_underlying h1, asIntOf, hn, part, isAgg, run_underlying h2, sizeOf, h4, hv, go_sem]
set_option maxHeartbeats 4000000 in
theorem take_any (h : List Int) (hh : h.length = 8) (bs : List UInt8) (bb o cap : Nat) (hlen : 64 ≤ bs.length) (hcap : bs.length ≤ cap) (w : World) (hG : GAt w) (hb : bb < w.heap.size)
    (hs : ∀ j u, (cellsOf bs)[j]? = some u → w.cell? ⟨bb, o + j, none⟩ = some u) :
    Calls Tryd.prog 67 #[.agg (wordsOf h), .slice (some ⟨bb, o, none⟩) bs.length cap] w fun e w' => e = .returned (.agg (wordsOf (takeS h bs))) ∧ Below w.heap.size w w' := by
  have HT0 := Lib.hid (TakeAt.start w h)
  have HS : Hid (∀ k (hk : k < bs.length), w.cell? ⟨bb, o + k, none⟩ = some (.int .u8 ((bs[k]'hk).toNat : Int))) := fun k hk => hs k _ (by simp [cellsOf, hk, u8v])
  clear hs
  have HWS : Hid ((wordsOf h).size = 8) := by show _ = _; rw [words_size, hh]
  have HZ8 : Hid ((wordsOf (List.replicate 8 0)).size = (wordsOf h).size) := by show _ = _; rw [words_size, words_size, hh]; rfl
  have HO8 : Hid ((wordsOf h).all (·.oneCell') = true) := by
    show _ = _
    simp only [wordsOf, List.all_toArray, List.all_eq_true]
    intro u hu
    obtain ⟨x, _, rfl⟩ := List.mem_map.1 hu
    rfl
  generalize hhv : wordsOf h = hv at *
  have HHV := Lib.hid hhv
  clear hhv
  go_enter Tryd.func67, Tryd.ntmps67
  go_wp2
  go_loopw [16] (fun cn wr => ∃ i : Nat, i ≤ 16 ∧ cn = .int .i64 i ∧ Hid (TakeAt w w.heap.size (w.heap.size + 1) (w.heap.size + 1 + 1) h (ringAt bs i 0) wr)) (fun cn _ => 16 - (intOf cn).toNat)
  case atStart => exact ⟨0, Nat.zero_le _, rfl, by rw [ringAt_zero]; exact HT0⟩
  case round =>
    obtain ⟨i, hi, rfl, HT⟩ := hrel
    by_cases hil : i < 16
    · have v1 : IntKind.i64.wrap (4 * (i : Int)) = 4 * (i : Int) := by rw [IntKind.wrap_i64]; omega
      have v2 : IntKind.i64.wrap (4 * (i : Int) + 4) = 4 * (i : Int) + 4 := by rw [IntKind.wrap_i64]; omega
      have p1 : (0 : Int) ≤ 4 * (i : Int) := by omega
      have p2 : 4 * (i : Int) ≤ 4 * (i : Int) + 4 := by omega
      have p3 : 4 * (i : Int) + 4 ≤ (cap : Int) := by omega
      go_wp2
      go_loopw [27] (fun cn wq => ∃ m : Nat, m ≤ 4 ∧ cn = .int .i64 m ∧ Hid (TakeAt w w.heap.size (w.heap.size + 1) (w.heap.size + 1 + 1) h (ringAt bs i m) wq)) (fun cn _ => 4 - (intOf cn).toNat)
      case atStart => exact ⟨0, Nat.zero_le _, rfl, HT⟩
      case round =>
        obtain ⟨m, hm, rfl, HQ⟩ := hrel
        by_cases hml : m < 4
        · have hk : 4 * i + m < bs.length := by omega
          have hcb := HS.out _ hk
          rw [← HQ.out.below.cell (p := ⟨bb, o + (4 * i + m), none⟩) hb, ← Nat.add_assoc] at hcb
          have hcr := words_cell HQ.out.ring (j := i) (by rw [ringAt_len]; exact hil)
          rw [ringAt_at bs i m hil] at hcr
          have hfr := frozen_of_row _ _ i _ _ HQ.out.ring
          have q1 : (0 : Int) ≤ (i : Int) := by omega
          have q2 : (i : Int) < 16 := by omega
          have q3 : (m : Int) < 4 := by omega
          have HST := Lib.hid (ringAt_set bs i m hk hil)
          have HSO : Hid (bits .or .u32 (IntKind.u32.wrap (wordAt bs i m * 256)) ((bs[4 * i + m]'hk).toNat : Int) = shlOr (wordAt bs i m) (bs[4 * i + m]'hk)) := rfl
          have hcw : IntKind.u32.wrap ((bs[4 * i + m]'hk).toNat : Int) = ((bs[4 * i + m]'hk).toNat : Int) := by
            have := (bs[4 * i + m]'hk).toNat_lt
            rw [show IntKind.u32.wrap ((bs[4 * i + m]'hk).toNat : Int) = ((bs[4 * i + m]'hk).toNat : Int) % 4294967296 from rfl]
            omega
          generalize bs[4 * i + m]'hk = c at *
          generalize wordAt bs i m = a at *
          have HSE := Lib.hid (HQ.out.set i (shlOr a c))
          rw [HST.out] at HSE
          go_wp2
          go_roundw
          case rel => exact ⟨m + 1, by omega, by go_num, HSE⟩
          case measure => simp [intOf]; omega
        · obtain rfl : m = 4 := by omega
          go_wp2
          go_roundw
          case rel => exact ⟨i + 1, by omega, by go_num, by rw [← ringAt_next]; exact HQ⟩
          case measure => simp [intOf]; omega
    · obtain rfl : i = 16 := by omega
      have HSZ : Hid ((Tryd.prog.info? 104).map (·.size) = some hv.size) := by show _ = _; rw [HWS.out]; kernel_rfl
      obtain ⟨tG, frG, hG2⟩ := hG.below ((HT.out.below.mono (Nat.le_refl _)).alloc HT.out.below.size (.cells hv 104))
      have HGB := Lib.hid hG2
      clear hG2
      have HW64 : Hid (Tryd.prog.underlying 119 = some (.array 64 103)) := by show _ = _; kernel_rfl
      have HS64 : Hid ((Tryd.prog.info? 119).map (·.size) = some (wordsOf roundsV).size) := by show _ = _; rw [words_size, roundsV_len]; kernel_rfl
      have HKN : Hid (∀ n, n < 64 → (wordsOf roundsV)[n]? = some (.int .u32 (roundsV.getD n 0))) := fun n hn => by
        have e := roundsV_len
        simp [wordsOf, List.getD, e, hn]
      have HIX : Hid (∀ n : Nat, n < 64 → ∀ wq : World, (Instr.index 119 (.agg (wordsOf roundsV)) (.int .i64 (n : Int))).run Tryd.prog wq = .ok (.int .u32 (roundsV.getD n 0)) wq) := fun n hn wq => index_words _ roundsV_len n hn wq
      generalize hkv : wordsOf roundsV = kv at *
      clear hkv
      have hw8 : Tryd.prog.underlying 104 = some (.array 8 103) := by kernel_rfl
      have HW8 := Lib.hid hw8
      clear hw8
      go_wp2_with (first
        | ((refine wpList_load_row rfl 104 _ rfl w.heap.size ?_ 104 hv (0, 0) _ ?_ HW8.out rfl HSZ.out ?_); (rfl); (rw [← HHV.out]; exact HT.out.hh))
        | ((refine wpList_load_row rfl 119 _ rfl 0 ?_ tG kv frG _ ?_ HW64.out rfl HS64.out ?_); (rfl); (exact HGB.out))
        | ((with_reducible refine wpList_store_rowTo rfl 104 _ _ rfl rfl wr.heap.size hv ?_ ?_ 104 (wordsOf (List.replicate 8 0)) ?_ HSZ.out HZ8.out HO8.out ?_); (rfl); (rfl); (exact heap_alloc_new _ _); (show wpList _ _ _ _ _ (World.setRow (wr.alloc (.cells (wordsOf (List.replicate 8 0)) 104)) wr.heap.size hv)); (rw [setRow_alloc])))
      have HR0 := Lib.hid (RoundAt.start HT.out)
      rw [HHV.out] at HR0
      obtain ⟨wo, rfl⟩ : ∃ wo : World, wo = wr := ⟨_, rfl⟩
      go_loopw [44] (fun cn wq => ∃ n : Nat, n ≤ 64 ∧ cn = .int .i64 n ∧ Hid (RoundAt w w.heap.size (w.heap.size + 1) (w.heap.size + 1 + 1) wo.heap.size h (ringR (ringAt bs 16 0) n) (stateR h (ringAt bs 16 0) n) wq)) (fun cn _ => 64 - (intOf cn).toNat)
      case atStart => exact ⟨0, Nat.zero_le _, rfl, HR0⟩
      case round =>
        obtain ⟨n, hn, rfl, HQ⟩ := hrel
        by_cases hnl : n < 64
        · have hrl := ringR_len (ringAt bs 16 0) (ringAt_len _ _ _) n
          have hsl := stateR_len h (ringAt bs 16 0) n
          rw [hh] at hsl
          have HNX : Hid (stateR h (ringAt bs 16 0) (n + 1) = roundS (stateR h (ringAt bs 16 0) n) (roundsV.getD n 0) (wordR (ringAt bs 16 0) n)) := rfl
          have hix := HIX.out n hnl
          have HRW : Hid ((n < 16 ∧ ringR (ringAt bs 16 0) (n + 1) = ringR (ringAt bs 16 0) n ∧ wordR (ringAt bs 16 0) n = (ringR (ringAt bs 16 0) n).getD (n % 16) 0) ∨ (¬ n < 16 ∧ ringR (ringAt bs 16 0) (n + 1) = (ringR (ringAt bs 16 0) n).set (n % 16) (nextV (ringR (ringAt bs 16 0) n) n) ∧ wordR (ringAt bs 16 0) n = nextV (ringR (ringAt bs 16 0) n) n)) := by
            show _ ∨ _
            by_cases h16 : n < 16
            · exact .inl ⟨h16, by rw [ringR, if_pos h16], by rw [wordR, if_pos h16]⟩
            · exact .inr ⟨h16, by rw [ringR, if_neg h16], by rw [wordR, if_neg h16]⟩
          generalize hnn1 : stateR h (ringAt bs 16 0) (n + 1) = vn at *
          have HNN1 := Lib.hid hnn1
          clear hnn1
          generalize stateR h (ringAt bs 16 0) n = v at *
          generalize hnn2 : ringR (ringAt bs 16 0) (n + 1) = rn at *
          have HNN2 := Lib.hid hnn2
          clear hnn2
          generalize ringR (ringAt bs 16 0) n = r at *
          generalize wordR (ringAt bs 16 0) n = wd at *
          generalize roundsV.getD n 0 = kc at *
          obtain ⟨va, vb, vc, vd, ve, vf, vg, vi, rfl⟩ := eight v hsl
          have c0 := words_cell HQ.out.vv (j := 0) (by simp)
          have c1 := words_cell HQ.out.vv (j := 1) (by simp)
          have c2 := words_cell HQ.out.vv (j := 2) (by simp)
          have c3 := words_cell HQ.out.vv (j := 3) (by simp)
          have c4 := words_cell HQ.out.vv (j := 4) (by simp)
          have c5 := words_cell HQ.out.vv (j := 5) (by simp)
          have c6 := words_cell HQ.out.vv (j := 6) (by simp)
          have c7 := words_cell HQ.out.vv (j := 7) (by simp)
          simp only [List.getD_cons_zero, List.getD_cons_succ] at c0 c1 c2 c3 c4 c5 c6 c7
          have hcr := words_cell HQ.out.t.ring (j := n % 16) (by rw [hrl]; exact Nat.mod_lt _ (by decide))
          have e0 : (n : Int) % 16 = ((n % 16 : Nat) : Int) := by omega
          have t0 : Int.tmod (n : Int) 16 = ((n % 16 : Nat) : Int) := by rw [Int.tmod_eq_emod_of_nonneg (by omega)]; exact e0
          have b0 : n % 16 < 16 := Nat.mod_lt _ (by decide)
          have HCN := Lib.hid (ringnext_any _ _ r n hrl hnl wr HQ.out.t.ring)
          have HSR := Lib.hid (HQ.out.setRing (n % 16) (nextV r n))
          generalize r.getD (n % 16) 0 = x0 at *
          generalize nextV r n = nx at *
          generalize n % 16 = k0 at *
          have p0 : (0 : Int) ≤ (k0 : Int) := by omega
          have q0 : (k0 : Int) < 16 := by omega
          by_cases h16 : n < 16
          · have h16' : decide ((16 : Int) ≤ (n : Int)) = false := by simp; omega
            go_wp2_with fail
            have HWD : Hid (wd = x0 ∧ rn = r) := by
              rcases HRW.out with h | h
              · exact ⟨h.2.2, h.2.1⟩
              · exact absurd h16 h.1
            obtain ⟨w1, rfl⟩ : ∃ wz : World, wz = wr := ⟨_, rfl⟩
            have HQ1 := HQ
            rw [← HWD.out.2] at HQ1
            obtain ⟨rfl, _⟩ := HWD.out
            clear HWD HSR HCN HQ hcr c0 c1 c2 c3 c4 c5 c6 c7 HRW
            have c0 := words_cell HQ1.out.vv (j := 0) (by simp)
            have c1 := words_cell HQ1.out.vv (j := 1) (by simp)
            have c2 := words_cell HQ1.out.vv (j := 2) (by simp)
            have c3 := words_cell HQ1.out.vv (j := 3) (by simp)
            have c4 := words_cell HQ1.out.vv (j := 4) (by simp)
            have c5 := words_cell HQ1.out.vv (j := 5) (by simp)
            have c6 := words_cell HQ1.out.vv (j := 6) (by simp)
            have c7 := words_cell HQ1.out.vv (j := 7) (by simp)
            simp only [List.getD_cons_zero, List.getD_cons_succ] at c0 c1 c2 c3 c4 c5 c6 c7
            obtain ⟨tt, HTT⟩ : ∃ tt : Int, Hid ((vi + three6 ve + bits .xor .u32 (bits .and .u32 ve vf) (bits .and .u32 (bits .xor .u32 IntKind.u32.max ve) vg) + kc + wd) % 4294967296 = tt) := ⟨_, Lib.hid rfl⟩
            obtain ⟨uu, HUU⟩ : ∃ uu : Int, Hid ((three2 va + bits .xor .u32 (bits .xor .u32 (bits .and .u32 va vb) (bits .and .u32 va vc)) (bits .and .u32 vb vc)) % 4294967296 = uu) := ⟨_, Lib.hid rfl⟩
            have HRR : Hid (roundS [va, vb, vc, vd, ve, vf, vg, vi] kc wd = [addS tt uu, va, vb, vc, addS vd tt, ve, vf, vg]) := by
              show _ = _
              rw [← HTT.out, ← HUU.out]
              rfl
            go_wp2_with fail
            go_quiet ((go_at_call 78; exact Calls.quiet_of_same (three6_any _ _)))
            go_wp2_with fail
            rw [HTT.out]
            have HQ2 := Lib.hid (HQ1.out.drewN nq)
            clear HQ1 c0 c1 c2 c3 c4 c5 c6 c7
            generalize w1.drewN nq = w2 at *
            clear nq
            have c0 := words_cell HQ2.out.vv (j := 0) (by simp)
            have c1 := words_cell HQ2.out.vv (j := 1) (by simp)
            have c2 := words_cell HQ2.out.vv (j := 2) (by simp)
            have c3 := words_cell HQ2.out.vv (j := 3) (by simp)
            have c4 := words_cell HQ2.out.vv (j := 4) (by simp)
            have c5 := words_cell HQ2.out.vv (j := 5) (by simp)
            have c6 := words_cell HQ2.out.vv (j := 6) (by simp)
            have c7 := words_cell HQ2.out.vv (j := 7) (by simp)
            simp only [List.getD_cons_zero, List.getD_cons_succ] at c0 c1 c2 c3 c4 c5 c6 c7
            go_quiet ((go_at_call 78; exact Calls.quiet_of_same (three2_any _ _)))
            go_upto_region 20 with (fail)
            rw [HUU.out]
            have HQ3 := Lib.hid (HQ2.out.drewN nq)
            clear HQ2 c0 c1 c2 c3 c4 c5 c6 c7
            generalize w2.drewN nq = w3 at *
            clear nq
            have c0 := words_cell HQ3.out.vv (j := 0) (by simp)
            have c1 := words_cell HQ3.out.vv (j := 1) (by simp)
            have c2 := words_cell HQ3.out.vv (j := 2) (by simp)
            have c3 := words_cell HQ3.out.vv (j := 3) (by simp)
            have c4 := words_cell HQ3.out.vv (j := 4) (by simp)
            have c5 := words_cell HQ3.out.vv (j := 5) (by simp)
            have c6 := words_cell HQ3.out.vv (j := 6) (by simp)
            have c7 := words_cell HQ3.out.vv (j := 7) (by simp)
            simp only [List.getD_cons_zero, List.getD_cons_succ] at c0 c1 c2 c3 c4 c5 c6 c7
            have HRS : Hid ((Tryd.prog.info? 104).map (·.size) = some (wordsOf [addS tt uu, va, vb, vc, addS vd tt, ve, vf, vg]).size) := by show _ = _; rw [words_size]; kernel_rfl
            have HRO : Hid ((wordsOf [va, vb, vc, vd, ve, vf, vg, vi]).size = (wordsOf [addS tt uu, va, vb, vc, addS vd tt, ve, vf, vg]).size) := by show _ = _; rw [words_size, words_size]; rfl
            have HR1 : Hid ((wordsOf [addS tt uu, va, vb, vc, addS vd tt, ve, vf, vg]).all (·.oneCell') = true) := words_one _
            have HQ4 := Lib.hid (HQ3.out.setV [addS tt uu, va, vb, vc, addS vd tt, ve, vf, vg])
            rw [← HRR.out] at HQ4
            rw [← HNX.out] at HQ4
            go_wp2_with ((with_reducible refine wpList_store_rowTo rfl 104 _ _ rfl rfl wo.heap.size (wordsOf [addS tt uu, va, vb, vc, addS vd tt, ve, vf, vg]) ?_ ?_ 104 (wordsOf [va, vb, vc, vd, ve, vf, vg, vi]) ?_ HRS.out HRO.out HR1.out ?_); go_must ((rfl); (rfl); (exact HQ3.out.vv)))
            go_roundw
            case rel => exact ⟨n + 1, by omega, by go_num, by rw [HNN1.out, HNN2.out, ← HRR.out, ← HNX.out]; exact HQ4⟩
            case measure => simp [intOf]; omega
          · have h16' : decide ((16 : Int) ≤ (n : Int)) = true := by simp; omega
            go_wp2_with fail
            refine HCN.out.mono ?_
            rintro e w1 ⟨rfl, m, hw1⟩
            have HQ1 := Lib.hid (HSR.out.drewN m)
            rw [← hw1] at HQ1
            clear hw1
            have HWD : Hid (wd = nx ∧ rn = r.set k0 nx) := by
              rcases HRW.out with h | h
              · exact absurd h.1 h16
              · exact ⟨h.2.2, h.2.1⟩
            rw [← HWD.out.2] at HQ1
            obtain ⟨rfl, _⟩ := HWD.out
            clear HWD HSR HCN HQ hcr c0 c1 c2 c3 c4 c5 c6 c7 HRW
            have c0 := words_cell HQ1.out.vv (j := 0) (by simp)
            have c1 := words_cell HQ1.out.vv (j := 1) (by simp)
            have c2 := words_cell HQ1.out.vv (j := 2) (by simp)
            have c3 := words_cell HQ1.out.vv (j := 3) (by simp)
            have c4 := words_cell HQ1.out.vv (j := 4) (by simp)
            have c5 := words_cell HQ1.out.vv (j := 5) (by simp)
            have c6 := words_cell HQ1.out.vv (j := 6) (by simp)
            have c7 := words_cell HQ1.out.vv (j := 7) (by simp)
            simp only [List.getD_cons_zero, List.getD_cons_succ] at c0 c1 c2 c3 c4 c5 c6 c7
            obtain ⟨tt, HTT⟩ : ∃ tt : Int, Hid ((vi + three6 ve + bits .xor .u32 (bits .and .u32 ve vf) (bits .and .u32 (bits .xor .u32 IntKind.u32.max ve) vg) + kc + wd) % 4294967296 = tt) := ⟨_, Lib.hid rfl⟩
            obtain ⟨uu, HUU⟩ : ∃ uu : Int, Hid ((three2 va + bits .xor .u32 (bits .xor .u32 (bits .and .u32 va vb) (bits .and .u32 va vc)) (bits .and .u32 vb vc)) % 4294967296 = uu) := ⟨_, Lib.hid rfl⟩
            have HRR : Hid (roundS [va, vb, vc, vd, ve, vf, vg, vi] kc wd = [addS tt uu, va, vb, vc, addS vd tt, ve, vf, vg]) := by
              show _ = _
              rw [← HTT.out, ← HUU.out]
              rfl
            go_wp2_with fail
            go_quiet ((go_at_call 78; exact Calls.quiet_of_same (three6_any _ _)))
            go_wp2_with fail
            rw [HTT.out]
            have HQ2 := Lib.hid (HQ1.out.drewN nq)
            clear HQ1 c0 c1 c2 c3 c4 c5 c6 c7
            generalize w1.drewN nq = w2 at *
            clear nq
            have c0 := words_cell HQ2.out.vv (j := 0) (by simp)
            have c1 := words_cell HQ2.out.vv (j := 1) (by simp)
            have c2 := words_cell HQ2.out.vv (j := 2) (by simp)
            have c3 := words_cell HQ2.out.vv (j := 3) (by simp)
            have c4 := words_cell HQ2.out.vv (j := 4) (by simp)
            have c5 := words_cell HQ2.out.vv (j := 5) (by simp)
            have c6 := words_cell HQ2.out.vv (j := 6) (by simp)
            have c7 := words_cell HQ2.out.vv (j := 7) (by simp)
            simp only [List.getD_cons_zero, List.getD_cons_succ] at c0 c1 c2 c3 c4 c5 c6 c7
            go_quiet ((go_at_call 78; exact Calls.quiet_of_same (three2_any _ _)))
            go_upto_region 20 with (fail)
            rw [HUU.out]
            have HQ3 := Lib.hid (HQ2.out.drewN nq)
            clear HQ2 c0 c1 c2 c3 c4 c5 c6 c7
            generalize w2.drewN nq = w3 at *
            clear nq
            have c0 := words_cell HQ3.out.vv (j := 0) (by simp)
            have c1 := words_cell HQ3.out.vv (j := 1) (by simp)
            have c2 := words_cell HQ3.out.vv (j := 2) (by simp)
            have c3 := words_cell HQ3.out.vv (j := 3) (by simp)
            have c4 := words_cell HQ3.out.vv (j := 4) (by simp)
            have c5 := words_cell HQ3.out.vv (j := 5) (by simp)
            have c6 := words_cell HQ3.out.vv (j := 6) (by simp)
            have c7 := words_cell HQ3.out.vv (j := 7) (by simp)
            simp only [List.getD_cons_zero, List.getD_cons_succ] at c0 c1 c2 c3 c4 c5 c6 c7
            have HRS : Hid ((Tryd.prog.info? 104).map (·.size) = some (wordsOf [addS tt uu, va, vb, vc, addS vd tt, ve, vf, vg]).size) := by show _ = _; rw [words_size]; kernel_rfl
            have HRO : Hid ((wordsOf [va, vb, vc, vd, ve, vf, vg, vi]).size = (wordsOf [addS tt uu, va, vb, vc, addS vd tt, ve, vf, vg]).size) := by show _ = _; rw [words_size, words_size]; rfl
            have HR1 : Hid ((wordsOf [addS tt uu, va, vb, vc, addS vd tt, ve, vf, vg]).all (·.oneCell') = true) := words_one _
            have HQ4 := Lib.hid (HQ3.out.setV [addS tt uu, va, vb, vc, addS vd tt, ve, vf, vg])
            rw [← HRR.out] at HQ4
            rw [← HNX.out] at HQ4
            go_wp2_with ((with_reducible refine wpList_store_rowTo rfl 104 _ _ rfl rfl wo.heap.size (wordsOf [addS tt uu, va, vb, vc, addS vd tt, ve, vf, vg]) ?_ ?_ 104 (wordsOf [va, vb, vc, vd, ve, vf, vg, vi]) ?_ HRS.out HRO.out HR1.out ?_); go_must ((rfl); (rfl); (exact HQ3.out.vv)))
            go_roundw
            case rel => exact ⟨n + 1, by omega, by go_num, by rw [HNN1.out, HNN2.out, ← HRR.out, ← HNX.out]; exact HQ4⟩
            case measure => simp [intOf]; omega
        · obtain rfl : n = 64 := by omega
          go_wp2_with fail
          have hzl := stateR_len h (ringAt bs 16 0) 64
          rw [hh] at hzl
          have HTS : Hid (takeS h bs = sumR h (stateR h (ringAt bs 16 0) 64) 8) := rfl
          generalize stateR h (ringAt bs 16 0) 64 = vz at *
          generalize ringR (ringAt bs 16 0) 64 = rz at *
          have HQ0 : Hid (RoundAt w w.heap.size (w.heap.size + 1) (w.heap.size + 1 + 1) wo.heap.size (sumR h vz 0) rz vz wr) := by rw [sumR_zero h vz hh]; exact HQ
          clear HQ
          go_loopw [121] (fun cn wq => ∃ m : Nat, m ≤ 8 ∧ cn = .int .i64 m ∧ Hid (RoundAt w w.heap.size (w.heap.size + 1) (w.heap.size + 1 + 1) wo.heap.size (sumR h vz m) rz vz wq)) (fun cn _ => 8 - (intOf cn).toNat)
          case atStart => exact ⟨0, Nat.zero_le _, rfl, HQ0⟩
          case round =>
            obtain ⟨m, hm, rfl, HM⟩ := hrel
            by_cases hml : m < 8
            · have d0 := words_cell HM.out.t.hh (j := m) (by rw [sumR_len]; exact hml)
              rw [sumR_at h vz m hml] at d0
              have d1 := words_cell HM.out.vv (j := m) (by rw [hzl]; exact hml)
              have f0 := frozen_of_row _ _ m _ _ HM.out.t.hh
              have HN := Lib.hid (HM.out.setH m (addS (h.getD m 0) (vz.getD m 0)))
              rw [sumR_set h vz m hml] at HN
              generalize h.getD m 0 = xa at *
              generalize vz.getD m 0 = xb at *
              have p0 : (0 : Int) ≤ (m : Int) := by omega
              have q0 : (m : Int) < 8 := by omega
              go_wp2_with fail
              go_region
              go_wp2_with fail
              go_roundw
              case rel => exact ⟨m + 1, by omega, by go_num, by first | exact HN | exact Lib.hid (HN.out.drewN 1)⟩
              case measure => simp [intOf]; omega
            · obtain rfl : m = 8 := by omega
              rw [← HTS.out] at HM
              have hsl := sumR_len h vz 8
              rw [← HTS.out] at hsl
              have HFS : Hid ((Tryd.prog.info? 104).map (·.size) = some (wordsOf (takeS h bs)).size) := by show _ = _; rw [words_size, hsl]; kernel_rfl
              have HFO : Hid ((wordsOf (List.replicate 8 0)).size = (wordsOf (takeS h bs)).size) := by show _ = _; rw [words_size, words_size, hsl]; rfl
              have HF1 : Hid ((wordsOf (takeS h bs)).all (·.oneCell') = true) := words_one _
              clear hsl HTS
              generalize htz : takeS h bs = hz at *
              have HTZ := Lib.hid htz
              clear htz
              go_wp2_with (first
                | ((refine wpList_load_row rfl 104 _ rfl w.heap.size ?_ 104 (wordsOf hz) (0, 0) _ ?_ HW8.out rfl HFS.out ?_); (rfl); (exact HM.out.t.hh))
                | ((with_reducible refine wpList_store_rowTo rfl 104 _ _ rfl rfl (w.heap.size + 1) (wordsOf hz) ?_ ?_ 104 (wordsOf (List.replicate 8 0)) ?_ HFS.out HFO.out HF1.out ?_); go_must ((rfl); (rfl); (exact HM.out.t.out))))
              have hun : Tryd.prog.underlying 104 = some (.array 8 103) := by kernel_rfl
              refine bodyPost_ret (results_cell_row rfl _ _ (w.heap.size + 1) 104 (wordsOf hz) (0, 0) _ rfl (setRow_heap _ _ _ _ _ _ HM.out.t.out) hun rfl HFS.out) rfl ⟨by rw [HTZ.out], ?_⟩
              exact HM.out.t.below.trans ⟨rfl, rfl, rfl, by simp [World.setRow], fun i hi => setRow_other _ _ i _ (by omega)⟩
end Go.Proofs.YtpogpfabnkgkfaaDoor
