/- bytes.Join of one row, walked. -/
import Derived.Test.YtpogpfabnkgkfaaDooraF
namespace Go.Proofs.YtpogpfabnkgkfaaDoor
open Go.RowKit Go.BigFrame Go.Maps Go.Shelf Go.Sort
set_option maxRecDepth 100000

set_option maxHeartbeats 1000000 in
/-- bytes.Join of one part. -/
theorem join_one (b o c bb ob cap : Nat) (l : List UInt8) (w : World) (hlen : l.length ≤ 17592186044415) (hc : w.cell? ⟨b, o, none⟩ = some (.slice (some ⟨bb, ob, none⟩) l.length cap))
    (h : ∀ j u, (cellsOf l)[j]? = some u → w.cell? ⟨bb, ob + j, none⟩ = some u) :
    Calls Tryd.prog 65 #[.slice (some ⟨b, o, none⟩) 1 c, .slice none 0 0] w fun e w' => ∃ v, e = .returned v ∧ w'.ownsRow w.heap.size 5 1 v l.length (cellsOf l) ∧ Below w.heap.size w w' := by
  obtain ⟨i0, hi, hz0, hz1, hz2⟩ := info_parts Tryd.infoByte
  have HN : Hid (∀ j u, (cellsOf l)[j]? = some u → w.cell? ((⟨bb, ob, none⟩ : Addr).add j) = some u) := fun j u hj => by
    rw [Addr.add_mid]; exact h j u hj
  have H1 : Hid (∀ u ∈ cellsOf l, u.oneCell' = true) := fun u hu => by
    obtain ⟨x, _, rfl⟩ := List.mem_map.1 hu; rfl
  have HL : Hid ((cellsOf l).length = l.length * 1) := by show _ = _; simp
  have hrow := Lib.hid (World.ownsRow_nil w w.heap.size 5 1)
  clear h
  go_enter Tryd.func65, Tryd.ntmps65
  go_wp2_with (at_builtin; refine wpList_append_own _ rfl (.const (.slice none 0 0)) (.tmp 21) 22 rfl w.heap.size 5 i0 (.int .u8 0) 1 1 Tryd.underlying22 hi hz0 hz1 hz2 rfl (by decide) _ _ _ rfl hrow.out ⟨bb, ob, none⟩ l.length cap (cellsOf l) rfl HL.out HN.out H1.out (by unfold maxLen; omega) (by omega) (by simp) ?_; intro v' w1 hown hgrow hnil)
  have hb1 : Below w.heap.size w w1 := (Below.refl _ _).grown hgrow (by simp) (fun k e => by cases e)
  go_ret
  exact ⟨v', rfl, by simpa using hown, hb1⟩
end Go.Proofs.YtpogpfabnkgkfaaDoor
