/- The closures of Placer.best, walked. -/
import Derived.Test.YtpogpfabnkgkfaaDoorF
import Derived.Shelf.SlicesE.DeleteFunc
namespace Go.Proofs.YtpogpfabnkgkfaaDoor
open Go.RowKit Go.BigFrame Go.Maps Go.Shelf Go.Sort

set_option maxRecDepth 100000 in
/-- The closure of best that asks for who is no stranger. -/
theorem best1_any (wb mb c : Nat) (st : Int → Int × Int) (who : Int) (hwho : 0 ≤ who ∧ who < 64) (w : World) (hc : w.cell? ⟨c, 0, none⟩ = some (.pointer (some ⟨wb, 0, none⟩))) (hm : w.cell? ⟨wb, 33, none⟩ = some (.map (some mb))) (h : MapSt w mb st) :
    Calls Tryd.prog 40 #[.int .i64 who, .pointer (some ⟨c, 0, none⟩)] w fun e w' => e = .returned (.bool ((st who).1 != 0)) ∧ w = w' := by
  have hl := h.look (k := who) (by omega)
  unfold stV at hl
  clear h hwho
  generalize (st who).1 = h1 at *
  generalize (st who).2 = h2 at *
  have hf : (Instr.field 61 (.agg #[.int .i64 h1, .int .u64 h2]) 0).run Tryd.prog w = .ok (.int .i64 h1) w := by kernel_rfl
  go_enter Tryd.func40, Tryd.ntmps40
  go_wp2
  go_ret
  exact ⟨rfl, rfl⟩

def ordW (ws : List WM) (a b : Int) : Int := orI (cmpI (loadOf ws a) (loadOf ws b)) (cmpI a b)

def KeepP (w0 : World) (c : Nat) (L : PL) (M : PM) (w : World) : Prop := c < w.heap.size ∧ w.cell? ⟨c, 0, none⟩ = some (.pointer (some ⟨L.pb, 0, none⟩)) ∧ PAt w L M ∧ Below w0.heap.size w0 w
theorem KeepP.step {w0 w w1 : World} {c : Nat} {L : PL} {M : PM} (h : Hid (KeepP w0 c L M w)) (hb : Below w.heap.size w w1) : w1.cell? ⟨c, 0, none⟩ = some (.pointer (some ⟨L.pb, 0, none⟩)) ∧ Hid (KeepP w0 c L M w1) := by
  obtain ⟨h0, h1, h2, h3⟩ := h.out
  have e : w1.cell? ⟨c, 0, none⟩ = some (.pointer (some ⟨L.pb, 0, none⟩)) := by rw [hb.cell (p := ⟨c, 0, none⟩) h0]; exact h1
  exact ⟨e, by have := hb.size; omega, e, h2.below hb, h3.trans (hb.mono h3.size)⟩
theorem KeepP.alloc {w0 w : World} {c : Nat} {L : PL} {M : PM} (h : Hid (KeepP w0 c L M w)) (o : Obj) : (w.alloc o).cell? ⟨c, 0, none⟩ = some (.pointer (some ⟨L.pb, 0, none⟩)) ∧ Hid (KeepP w0 c L M (w.alloc o)) := KeepP.step h ((Below.refl _ _).alloc (Nat.le_refl _) o)
theorem KeepP.pat {w0 w : World} {c : Nat} {L : PL} {M : PM} (h : Hid (KeepP w0 c L M w)) : PAt w L M := h.out.2.2.1
theorem KeepP.bel {w0 w : World} {c : Nat} {L : PL} {M : PM} (h : Hid (KeepP w0 c L M w)) : Below w0.heap.size w0 w := h.out.2.2.2

set_option maxHeartbeats 2000000 in
theorem best2_any (L : PL) (M : PM) (c : Nat) (a b : Int) (ha : 0 ≤ a ∧ a < 64) (hb : 0 ≤ b ∧ b < 64) (w : World) (h : PAt w L M) (hcl : c < w.heap.size) (hc : w.cell? ⟨c, 0, none⟩ = some (.pointer (some ⟨L.pb, 0, none⟩))) :
    Calls Tryd.prog 42 #[.int .i64 a, .int .i64 b, .pointer (some ⟨c, 0, none⟩)] w fun e w' => e = .returned (.int .i64 (ordW M.ws a b)) ∧ Below w.heap.size w w' := by
  have H := Lib.hid h
  clear h
  have H0 : w.drew.cell? ⟨c, 0, none⟩ = some (.pointer (some ⟨L.pb, 0, none⟩)) ∧ Hid (KeepP w c L M w.drew) := ⟨hc, Lib.hid ⟨hcl, hc, H.out.below ((Below.refl _ _).drew), (Below.refl _ _).drew⟩⟩
  go_enter Tryd.func42, Tryd.ntmps42
  go_wp2
  go_region_held3 (fun w' => w'.cell? ⟨c, 0, none⟩ = some (.pointer (some ⟨L.pb, 0, none⟩)) ∧ Hid (KeepP w c L M w')) (first | exact H0 | assumption | exact KeepP.step (And.right (by assumption)) (by assumption) | exact KeepP.alloc (And.right (by assumption)) _)
    (first
      | (go_at_call 45; refine (load_any L M _ (by omega) _ (by exact KeepP.pat (And.right (by assumption)))).mono ?_; rintro e w1 ⟨rfl, hb1⟩)
      | (go_at_call 44; refine (compare_any _ _ _).mono ?_; rintro e w1 ⟨rfl, rfl⟩)
      | (go_at_call 43; refine (or_two (cmpI (loadOf M.ws a) (loadOf M.ws b)) (cmpI a b) _ _ _ ?_ ?_).mono ?_; (simp); (simp); rintro e w1 ⟨rfl, rfl⟩))
  go_wp2
  go_ret
  exact ⟨rfl, KeepP.bel (And.right (by assumption))⟩
end Go.Proofs.YtpogpfabnkgkfaaDoor
