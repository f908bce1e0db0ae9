/- The model of Placer.Next: its steps. -/
import Derived.Test.YtpogpfabnkgkfaaDoorK
namespace Go.Proofs.YtpogpfabnkgkfaaDoor
open Go.RowKit Go.BigFrame Go.Maps Go.Shelf Go.Sort
set_option maxRecDepth 100000

set_option maxHeartbeats 1000000 in
theorem best_nil (L : PL) (M : PM) (l : WL) (x : WM) (w : World) (h : PAt w L M) (hx : WAt w l x) (hne : M.ps = []) :
    Calls Tryd.prog 24 #[.pointer (some ⟨L.pb, 0, none⟩), .pointer (some ⟨l.wb, 0, none⟩)] w fun e w' =>
      e = .returned (.tuple #[.int .i64 (bestI M x.st), .bool (bestB M x.st)]) ∧ Below w.heap.size w w' := by
  have c1 := h.cells.2.1
  have hr := h.ps
  rw [hne] at hr
  have hbi : bestI M x.st = 0 := by unfold bestI frees; rw [hne]; rfl
  have hbb : bestB M x.st = false := by unfold bestB frees; rw [hne]; rfl
  have HBI := Lib.hid hbi
  have HBB := Lib.hid hbb
  have hb0 : Below w.heap.size w ((w.alloc (.cells #[.pointer (some ⟨L.pb, 0, none⟩)] 25)).alloc (.cells #[.pointer (some ⟨l.wb, 0, none⟩)] 54)) := ((Below.refl _ _).alloc (Nat.le_refl _) _).alloc (by simp) _
  have HB0 := Lib.hid hb0
  have hpb := h.lt
  clear h hx hne hbi hbb hb0
  rcases hr.2 with ⟨e, _⟩ | ⟨g, cap, cur, e, _, c, _⟩
  · rw [e] at c1
    clear hr e
    go_enter Tryd.func24, Tryd.ntmps24
    go_wp2_with (first
      | (go_at_call 16; refine (clone_nil_any _).mono ?_; rintro e w1 ⟨rfl, rfl⟩)
      | (go_at_call 39; refine (delf_empty _ _ _ _).mono ?_; rintro e w1 ⟨rfl, rfl⟩))
    go_ret2
    exact ⟨by rw [HBI.out, HBB.out]; rfl, HB0.out⟩
  · rw [e] at c1
    have hg : g < w.heap.size := (Array.getElem?_eq_some_iff.1 c).1
    have hcl := fun W => clonei_any g 0 cap [] W (by simp) (by simp) (by simp)
    simp only [List.length_nil] at hcl c1
    clear hr e c
    go_enter Tryd.func24, Tryd.ntmps24
    go_wp2_with (first
      | (go_at_call 16; refine (hcl _ (by simp only [World.size_alloc]; omega)).mono ?_; rintro e w1 ⟨v, rfl, hrow, hb1, _⟩; obtain ⟨ao, cap1, rfl, _⟩ := row_shape hrow; clear hrow)
      | (go_at_call 39; refine (delf_empty _ _ _ _).mono ?_; rintro e w2 ⟨rfl, rfl⟩))
    go_ret2
    exact ⟨by rw [HBI.out, HBB.out]; rfl, HB0.out.trans (hb1.mono (by simp only [World.size_alloc]; omega))⟩

theorem best_any (L : PL) (M : PM) (l : WL) (x : WM) (w : World) (h : PAt w L M) (hx : WAt w l x) :
    Calls Tryd.prog 24 #[.pointer (some ⟨L.pb, 0, none⟩), .pointer (some ⟨l.wb, 0, none⟩)] w fun e w' =>
      e = .returned (.tuple #[.int .i64 (bestI M x.st), .bool (bestB M x.st)]) ∧ Below w.heap.size w w' := by
  by_cases hne : M.ps = []
  · exact best_nil L M l x w h hx hne
  · refine best_some L M l x w h hx hne ?_
    have h1 : M.ps.length ≤ nodes.length := by
      have hnd : M.ps.Nodup := h.sorted.imp (fun h => by omega)
      have hp : M.ps.Perm (nodes.filter fun k => decide (k ∈ M.ps)) := by
        refine (List.perm_ext_iff_of_nodup hnd (nodes_nodup.sublist List.filter_sublist)).2 fun a => ?_
        rw [List.mem_filter, mem_nodes]
        simp only [decide_eq_true_eq]
        exact ⟨fun ha => ⟨h.nodes a ha, ha⟩, fun ha => ha.2⟩
      rw [hp.length_eq]
      exact List.length_filter_le _ _
    have e : nodes.length = 64 := by simp [nodes]
    omega

theorem bestI_mem {M : PM} {st : Int → Int × Int} (h : bestB M st = true) : bestI M st ∈ frees M.ps st := by
  unfold bestB at h
  unfold bestI
  match hf : frees M.ps st with
  | [] => rw [hf] at h; cases h
  | a :: l => exact minOf_mem _ _ (by simp)
theorem bestI_free {M : PM} {st : Int → Int × Int} (h : bestB M st = true) : bestI M st ∈ M.ps ∧ (st (bestI M st)).1 = 0 := by
  have := List.mem_filter.1 (bestI_mem h)
  exact ⟨this.1, by simpa using this.2⟩

theorem filter_count (l : List Int) (hn : l.Nodup) (p q : Int → Bool) (a : Int) (ha : a ∈ l) (hp : p a = false) (hq : q a = true) (he : ∀ b, b ≠ a → q b = p b) : (l.filter q).length = (l.filter p).length + 1 := by
  induction l with
  | nil => cases ha
  | cons b l ih =>
    rw [List.nodup_cons] at hn
    simp only [List.filter_cons]
    by_cases e : b = a
    · subst e
      have hsame : l.filter q = l.filter p := List.filter_congr (fun c hc => he c (fun e => hn.1 (e ▸ hc)))
      rw [hp, hq, hsame]; simp
    · have ha' : a ∈ l := by rcases List.mem_cons.1 ha with h | h; exact absurd h.symm e; exact h
      rw [he b e]
      cases p b <;> simp [ih hn.2 ha']
theorem allOf_eq (st : Int → Int × Int) (p : Int × Int → Bool) : allOf st p = nodes.filter fun k => decide ((st k).1 ≠ 0) && p (st k) := by
  unfold allOf keysSt
  rw [List.filter_filter]
  congr 1; funext k; rw [Bool.and_comm]
theorem busyN_upd {st : Int → Int × Int} {who : Int} (hw : 0 ≤ who ∧ who < 64) (h0 : (st who).1 = 0) (s : Int) : busyN (upd st who (1, s)) = busyN st + 1 := by
  unfold busyN
  rw [allOf_eq, allOf_eq]
  refine filter_count _ nodes_nodup _ _ who (mem_nodes.2 hw) ?_ ?_ ?_
  · simp [h0]
  · simp [upd, busyB]
  · intro b hb; simp [upd, hb]
end Go.Proofs.YtpogpfabnkgkfaaDoor
