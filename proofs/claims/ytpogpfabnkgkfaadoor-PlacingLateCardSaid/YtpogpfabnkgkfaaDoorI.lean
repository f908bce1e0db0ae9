/- Placer.best, walked. -/
import Derived.Test.YtpogpfabnkgkfaaDoorH
namespace Go.Proofs.YtpogpfabnkgkfaaDoor
open Go.RowKit Go.BigFrame Go.Maps Go.Shelf Go.Sort
set_option maxRecDepth 100000

def frees (ps : List Int) (st : Int → Int × Int) : List Int := ps.filter fun who => (st who).1 == 0
def bestI (M : PM) (st : Int → Int × Int) : Int := match frees M.ps st with
  | [] => 0
  | a :: l => minOf M.ws (a :: l)
def bestB (M : PM) (st : Int → Int × Int) : Bool := !(frees M.ps st).isEmpty

theorem to_nodes (ps : List Int) (h : ∀ p ∈ ps, 0 ≤ p ∧ p < 64) : ∃ nd : List Nd, nd.map encN = ps.map (Value.int .i64) ∧ nd.length = ps.length ∧ ∀ q : Int → Bool, (nd.filter fun x => q x.1).map encN = (ps.filter q).map (Value.int .i64) := by
  induction ps with
  | nil => exact ⟨[], rfl, rfl, fun _ => rfl⟩
  | cons a ps ih =>
    obtain ⟨nd, h1, h2, h3⟩ := ih (fun p hp => h p (List.mem_cons_of_mem _ hp))
    refine ⟨⟨a, h a List.mem_cons_self⟩ :: nd, by simp [h1, encN], by simp [h2], fun q => ?_⟩
    simp only [List.filter_cons]
    by_cases hq : q a = true
    · simp only [hq, if_true, List.map_cons, h3]; rfl
    · simp only [hq]; exact h3 q

theorem idxf_empty (a : Option Addr) (cap : Nat) (f : Value) (w : World) : Calls Tryd.prog 58 #[.slice a 0 cap, f] w fun e w' => e = .returned (.int .i64 (-1)) ∧ w = w' := by
  go_enter Tryd.func58, Tryd.ntmps58
  go_wp2
  refine wp_loop_rounds 1 ?_
  rw [rounds_succ]
  go_wp2
  go_ret
  exact ⟨rfl, rfl⟩
theorem delf_empty (a : Option Addr) (cap : Nat) (f : Value) (w : World) : Calls Tryd.prog 39 #[.slice a 0 cap, f] w fun e w' => e = .returned (.slice a 0 cap) ∧ w = w' := by
  go_enter Tryd.func39, Tryd.ntmps39
  go_wp2_with (go_at_call 58; refine (idxf_empty _ _ _ _).mono ?_; rintro e w1 ⟨rfl, rfl⟩)
  go_ret
  exact ⟨rfl, rfl⟩

theorem only_below {B g : Nat} {a b : World} (h : Only (fun i => i = g) a b) (hB : B ≤ g) (hs : B ≤ a.heap.size) : Below B a b :=
  ⟨h.os, h.tape, h.output, h.size, fun k hk => h.block k (by omega) (by intro e; omega)⟩

set_option maxHeartbeats 2000000 in
theorem best_some (L : PL) (M : PM) (l : WL) (x : WM) (w : World) (h : PAt w L M) (hx : WAt w l x) (hne : M.ps ≠ []) (hps : M.ps.length ≤ 64) :
    Calls Tryd.prog 24 #[.pointer (some ⟨L.pb, 0, none⟩), .pointer (some ⟨l.wb, 0, none⟩)] w fun e w' =>
      e = .returned (.tuple #[.int .i64 (bestI M x.st), .bool (bestB M x.st)]) ∧ Below w.heap.size w w' := by
  have hn0 : M.ps.length ≠ 0 := fun e => hne (List.eq_nil_of_length_eq_zero e)
  obtain ⟨g0, cap0, hpv, hg0, hg0'⟩ := row_slice h.ps hn0
  have c1 := h.cells.2.1
  rw [hpv] at c1
  have hpb := h.lt
  have hwb := hx.lt
  have hmap := hx.mapCell
  obtain ⟨nd, hnd1, hnd2, hnd3⟩ := to_nodes M.ps h.nodes
  have hnd3 := hnd3 (fun who => (x.st who).1 == 0)
  have HROW0 := Lib.hid (show ∀ j u, (M.ps.map (Value.int .i64))[j]? = some u → w.cell? ⟨g0, 0 + j, none⟩ = some u from fun j u hj => by
    have e := h.ps
    rw [hpv] at e
    have e := e.cells (g := g0) rfl j u hj
    rwa [Addr.add_mid] at e)
  have HFN : Hid (∀ p ∈ frees M.ps x.st, 0 ≤ p ∧ p < 64) := fun p hp => h.nodes p (List.mem_filter.1 hp).1
  have hfl : (frees M.ps x.st).length ≤ 64 := Nat.le_trans (List.length_filter_le _ _) hps
  have HF3 : Hid ((nd.filter fun y => (x.st y.1).1 == 0).map encN = (frees M.ps x.st).map (Value.int .i64)) := hnd3
  have HBI : Hid (∀ a t, frees M.ps x.st = a :: t → bestI M x.st = minOf M.ws (frees M.ps x.st)) := fun a t e => by unfold bestI; rw [e]
  have HBI0 : Hid (frees M.ps x.st = [] → bestI M x.st = 0) := fun e => by unfold bestI; rw [e]
  have HBB : Hid (bestB M x.st = !(frees M.ps x.st).isEmpty) := rfl
  have HL : Hid (nd.length = M.ps.length) := hnd2
  have HE : Hid (nd.map encN = M.ps.map (Value.int .i64)) := hnd1
  have H := Lib.hid h
  have HX := Lib.hid hx
  have hcl := fun W C => clonei_any g0 0 cap0 (M.ps.map (Value.int .i64)) W (by intro u hu; obtain ⟨a, _, rfl⟩ := List.mem_map.1 hu; rfl) (by simp; omega) C
  simp only [List.length_map] at hcl
  have hb0 : Below w.heap.size w ((w.alloc (.cells #[.pointer (some ⟨L.pb, 0, none⟩)] 25)).alloc (.cells #[.pointer (some ⟨l.wb, 0, none⟩)] 54)) := ((Below.refl _ _).alloc (Nat.le_refl _) _).alloc (by simp) _
  have HB0 := Lib.hid hb0
  have hps0 := hps
  clear h hx hpv hnd1 hnd2 hnd3 hne hps hb0
  have HCL := Lib.hid hcl
  clear hcl
  go_enter Tryd.func24, Tryd.ntmps24
  go_wp2_with (go_at_call 16; refine (HCL.out _ (by exact (fun j u hj => by rw [HB0.out.cell (p := ⟨g0, 0 + j, none⟩) hg0']; exact HROW0.out j u hj)) (by have := HB0.out.size; omega)).mono ?_; rintro e w1 ⟨v, rfl, hrow, hb1, _⟩)
  obtain ⟨g1, cap1, rfl, hg1, hg1'⟩ := row_slice hrow hn0
  simp only [World.size_alloc] at hg1
  have hw1 : w.heap.size + 2 ≤ w1.heap.size := by have := hb1.size; simp only [World.size_alloc] at this; omega
  have HB1 : Hid (Below w.heap.size w w1) := HB0.out.trans (hb1.mono (by simp only [World.size_alloc]; omega))
  have k2 : w1.cell? ⟨w.heap.size, 0, none⟩ = some (.pointer (some ⟨L.pb, 0, none⟩)) := by
    rw [hb1.cell (p := ⟨w.heap.size, 0, none⟩) (by simp only [World.size_alloc]; omega)]; simp
  have k3 : w1.cell? ⟨w.heap.size + 1, 0, none⟩ = some (.pointer (some ⟨l.wb, 0, none⟩)) := by
    rw [hb1.cell (p := ⟨w.heap.size + 1, 0, none⟩) (by simp only [World.size_alloc]; omega)]; simp
  have hmap1 : w1.cell? ⟨l.wb, 33, none⟩ = some (.map (some l.mb)) := by rw [HB1.out.cell (p := ⟨l.wb, 33, none⟩) hwb]; exact hmap
  have hd := delf_any l.wb l.mb (w.heap.size + 1) g1 cap1 x.st nd w1 (by
    rw [HL.out, HE.out]
    exact row_base hrow (Nat.zero_le _)) (by rw [HL.out]; have := hps0; omega) k3 hmap1 (HX.out.map.below HB1.out) (by omega) (by omega)
  rw [HL.out] at hd
  have HFL : Hid ((nd.filter fun y => (x.st y.1).1 == 0).length = (frees M.ps x.st).length) := Lib.hid (by have := congrArg List.length HF3.out; simpa using this)
  rw [HF3.out, HFL.out] at hd
  have HD := Lib.hid hd
  have K2 := Lib.hid k2
  clear hd hrow hb1 k2 k3 hmap1 hmap
  match hfr : frees M.ps x.st with
  | [] =>
    have HI := Lib.hid (HBI0.out hfr)
    have HBf : Hid (bestB M x.st = false) := by rw [HBB.out, hfr]; rfl
    have HD0 := Lib.hid HD.out
    rw [hfr] at HD0
    simp only [List.length_nil] at HD0
    clear hfr HD
    go_wp2_with (go_at_call 39; refine HD0.out.mono ?_; rintro e w2 ⟨rfl, _, honly⟩)
    go_ret2
    exact ⟨by rw [HI.out, HBf.out]; rfl, HB1.out.trans (only_below honly (by omega) (by omega))⟩
  | a :: t =>
    have HI := Lib.hid (HBI.out a t hfr)
    have HBf : Hid (bestB M x.st = true) := by rw [HBB.out, hfr]; rfl
    have hlen : 0 < (frees M.ps x.st).length := by rw [hfr]; simp
    have hlz : ((((frees M.ps x.st).length : Nat) : Int) == 0) = false := beq_eq_false_iff_ne.2 (by omega)
    clear hfr
    have hmin := fun W => min_any L M w.heap.size g1 0 cap1 (frees M.ps x.st) W hlen hfl HFN.out
    generalize frees M.ps x.st = fs at *
    go_wp2_with (first
      | (go_at_call 39; refine HD.out.mono ?_; rintro e w2 ⟨rfl, hcells, honly⟩; have HCE := Lib.hid hcells; have HO := Lib.hid honly; clear hcells honly; have hw2 := HO.out.size)
      | (go_at_call 41; refine (hmin _ (by omega) (by exact fun j hj => HCE.out j _ (by simp [List.getD, hj])) (by exact H.out.below (HB1.out.trans (only_below HO.out (by omega) (by omega)))) (by omega) (by exact (World.cell?_of_block (w := w1) (HO.out.block w.heap.size (by omega) (by intro e; omega))).trans K2.out)).mono ?_; rintro e w3 ⟨rfl, hb3⟩))
    go_ret2
    exact ⟨by rw [HI.out, HBf.out]; rfl, (HB1.out.trans (only_below HO.out (by omega) (by omega))).trans (hb3.mono (by omega))⟩
end Go.Proofs.YtpogpfabnkgkfaaDoor
