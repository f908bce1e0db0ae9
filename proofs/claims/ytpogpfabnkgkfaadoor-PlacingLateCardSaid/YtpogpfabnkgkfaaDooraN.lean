/- slices.Chunk and AppendSeq over bytes, walked. -/
import Derived.Test.YtpogpfabnkgkfaaDooraM
namespace Go.Proofs.YtpogpfabnkgkfaaDoor
open Go.RowKit Go.BigFrame Go.Maps Go.Shelf Go.Sort
set_option maxRecDepth 100000

attribute [local go_sem] Oper.semAt_some

theorem grownBy_drew (W : World) : W.grownBy W.drew none := ⟨rfl, rfl, rfl, Nat.le_refl _, fun _ _ _ => rfl⟩
set_option maxHeartbeats 1000000 in
theorem chunkB_any (a : Option Addr) (len cap : Nat) (w : World) :
    Calls Tryd.prog 73 #[.slice a len cap, .int .i64 64] w fun e w' => e = .returned (.func (.func 90) #[] #[.pointer (some ⟨w.heap.size, 0, none⟩), .pointer (some ⟨w.heap.size + 1, 0, none⟩)]) ∧
      w' = (w.alloc (.cells #[.slice a len cap] 22)).alloc (.cells #[.int .i64 64] 3) := by
  go_enter Tryd.func73, Tryd.ntmps73
  go_wp2
  go_ret
  exact ⟨rfl, rfl⟩
theorem chunkB_stops (n : Nat) (hn : 1 ≤ n) (Bs Bn b off len cap : Nat) (hreach : len ≤ 1099511627776) (hcap : len ≤ cap) (w : World) (hBs0 : Bs < w.heap.size) (hBn0 : Bn < w.heap.size)
    (hBs : w.cell? ⟨Bs, 0, none⟩ = some (.slice (some ⟨b, off, none⟩) len cap)) (hBn : w.cell? ⟨Bn, 0, none⟩ = some (.int .i64 64)) :
    SeqStopsK Fence.wide n Tryd.prog 90 #[.pointer (some ⟨Bs, 0, none⟩), .pointer (some ⟨Bn, 0, none⟩)] (encsB b off len) (KeepB Bs Bn) (fun ys => ys = List.finRange (partsOf len 64)) (fun _ => True) (partsOf len 64) w := fun l J Jx W hW hJ _ hY h0 =>
  chunk1B Fence.wide n trivial rfl hn l Bs Bn b off len cap hreach hcap J Jx (fun pre A h => hJ pre A _ none h (grownBy_drew A) (fun r e => by cases e)) hY W
    ((hW.cell (p := ⟨Bs, 0, none⟩) hBs0).trans hBs) ((hW.cell (p := ⟨Bn, 0, none⟩) hBn0).trans hBn) h0

theorem Tryd.infoBytes : (Tryd.prog.info? 22).map (fun i => (i.zero, i.size, i.bytes)) = some (some (.slice none 0 0), 1, 24) := by kernel_rfl
def chunkV (b off len : Nat) (i : Fin (partsOf len 64)) : Value := .slice (some ⟨b, off + 64 * i.1, none⟩) (lenAt len 64 i.1) (lenAt len 64 i.1)
theorem cell_new_slice (W : World) (v : Value) (t : TypeId) : ∀ j u, [v][j]? = some u → (W.alloc (.cells #[v] t)).cell? ((⟨W.heap.size, 0, none⟩ : Addr).add j) = some u := by
  intro j u hj
  match j, hj with
  | 0, hj => simp at hj; subst hj; simp [Addr.add]
theorem partsOf_le (len : Nat) : partsOf len 64 ≤ len := by unfold partsOf; omega

set_option maxHeartbeats 2000000 in
theorem appendSeqB (Bs Bn b off len cap : Nat) (hreach : len ≤ 1099511627776) (hcap : len ≤ cap) (w : World) (hBs0 : Bs < w.heap.size) (hBn0 : Bn < w.heap.size)
    (hBs : w.cell? ⟨Bs, 0, none⟩ = some (.slice (some ⟨b, off, none⟩) len cap)) (hBn : w.cell? ⟨Bn, 0, none⟩ = some (.int .i64 64)) :
    Calls Tryd.prog 89 #[.slice none 0 0, .func (.func 90) #[] #[.pointer (some ⟨Bs, 0, none⟩), .pointer (some ⟨Bn, 0, none⟩)]] w fun e w' =>
      ∃ v, e = .returned v ∧ w'.ownsRow w.heap.size 22 1 v (partsOf len 64) ((List.finRange (partsOf len 64)).map (chunkV b off len)) ∧ Below w.heap.size w w' := by
  refine (callsIn_wide (n := 3)).1 ?_
  have h1 : 1 ≤ 3 := by omega
  have hpl := partsOf_le len
  obtain ⟨i0, hi, hz0, hz1, hz2⟩ := info_parts Tryd.infoBytes
  refine callsIn_of_wp_marks Tryd.func89 rfl trivial ?_ rfl
  simp only [Tryd.ntmps89, List.size_toArray, List.length_cons, List.length_nil, Nat.reduceAdd, Nat.reduceSub, Array.replicate_succ, Array.replicate_zero, List.push_toArray, List.append_toArray, List.nil_append, List.cons_append]
  gi_wp2
  have bO := Boxed.new w 96 (.slice none 0 0)
  have hB0 : Below w.heap.size w (w.alloc (.cells #[.slice none 0 0] 96)) := (Below.refl _ w).alloc (Nat.le_refl _) _
  refine wpIn_rangeFunc_ownG rfl h1 (gf := 90) (lb := #[.pointer (some ⟨Bs, 0, none⟩), .pointer (some ⟨Bn, 0, none⟩)]) rfl trivial (enters_of Tryd.func90 (by kernel_rfl) rfl)
    (chunkB_stops 2 (by omega) Bs Bn b off len cap hreach hcap _ (Nat.lt_of_lt_of_le hBs0 hB0.size) (Nat.lt_of_lt_of_le hBn0 hB0.size) ((hB0.cell (p := ⟨Bs, 0, none⟩) hBs0).trans hBs) ((hB0.cell (p := ⟨Bn, 0, none⟩) hBn0).trans hBn)) KeepB.trans (keepB_b (Nat.lt_of_lt_of_le hBs0 hB0.size) (Nat.lt_of_lt_of_le hBn0 hB0.size)) (Below.refl _ _) (fun _ => rfl)
    (fun pre W => (∃ v, Boxed W w.heap.size 96 v ∧ W.ownsRow w.heap.size 22 1 v pre.length (pre.map (chunkV b off len)) ∧ True) ∧ Below w.heap.size w W)
    (fun _ _ _ => False)
    (OwnFrom.and (Own.from (holdsRow_own w.heap.size w.heap.size 96 22 1 (fun pre : List (Fin (partsOf len 64)) => pre.length) (fun pre => pre.map (chunkV b off len)) (fun _ _ => True)) _) (ownFrom_below (Nat.le_refl _) (by simp)))
    (fun _ _ _ _ _ hs _ _ => hs)
    ⟨⟨_, bO, World.ownsRow_nil _ _ _ _, trivial⟩, hB0⟩
    (fun x => { tmps := #[.slice none 0 0, .func (.func 90) #[] #[.pointer (some ⟨Bs, 0, none⟩), .pointer (some ⟨Bn, 0, none⟩)], .pointer (some ⟨w.heap.size, 0, none⟩), undef, .slice none 0 0, chunkV b off len x, .func (.func 90) #[] #[.pointer (some ⟨Bs, 0, none⟩), .pointer (some ⟨Bn, 0, none⟩)], chunkV b off len x, undef, undef, undef, undef, undef], defers := [] }) ?assign ?body ?done ?stop
  case assign =>
    intro l x W K hK
    have e : encsB b off len x = #[chunkV b off len x] := by simp [encsB, chunkV]
    rw [e]
    gi_wp2
    exact hK
  case body =>
    rintro l pre x W ⟨⟨v, hv, hrow, _⟩, hB⟩ hlt
    have hc := hv.cell
    have hx : ∃ ad k, chunkV b off len x = .slice (some ad) k k := ⟨_, _, rfl⟩
    have HE : Hid (pre.map (chunkV b off len) ++ [chunkV b off len x] = (pre ++ [x]).map (chunkV b off len)) := by show _ = _; simp
    have HL : Hid (pre.length + 1 = (pre ++ [x]).length) := by show _ = _; simp
    obtain ⟨ad, k, hxe⟩ := hx
    rw [hxe] at HE ⊢
    clear hxe
    generalize hpl2 : pre.length = pl at *
    clear hpl2
    generalize pre.map (chunkV b off len) = pm at *
    gi_wp2_with (gi_at_builtin; refine wpListIn_append_own _ rfl _ _ 96 rfl w.heap.size 22 i0 (.slice none 0 0) 1 24 Tryd.underlying96 hi hz0 hz1 hz2 rfl (by decide) _ _ _ rfl (hrow.alloc _) ⟨W.heap.size, 0, none⟩ 1 1 [.slice (some ad) k k] rfl rfl (cell_new_slice _ _ _) (by simp [Value.oneCell']) (by unfold maxLen; omega) (by omega) (by have := hB.size; simp; omega) ?_; intro v' w1 hown' hgrow _; obtain ⟨g', cap', rfl⟩ := ownsRow_succ hown'; obtain ⟨hv1, hv2, hr2, hk2, hb2⟩ := hv.appended (by decide) hrow hB.size (Nat.le_refl _) hown' hgrow; have hc1 := hv1.cell; have hf1 := hv1.frozen)
    exact ⟨hk2.from _, KeepB.below hb2 hBs0 hBn0, ⟨_, hv2, by rw [← HL.out, ← HE.out]; exact hr2, trivial⟩, hB.trans hb2⟩
  case done =>
    rintro D ys W hD rfl ⟨⟨v, hv, hrow, _⟩, hB⟩ hK
    have hc := hv.cell
    have hfl : (List.finRange (partsOf len 64)).length = partsOf len 64 := by simp
    rw [hfl] at hrow
    gi_wp2
    refine ⟨by simp, .inl ⟨_, _, rfl, run_takeDeferred hK, ?_⟩⟩
    exact ⟨_, results_tmp rfl _ _ _, v, rfl, ownsRow_putObj hrow _ hK rfl, hB.trans (belowK_b (w := w) (Nat.le_refl _) W D _ _ (by simp at hD; omega) hK rfl rfl)⟩
  case stop =>
    rintro D c pre W _ _ h _
    exact h.elim
end Go.Proofs.YtpogpfabnkgkfaaDoor
