/- proof.below and crown, walked. -/
import Derived.Test.YtpogpfabnkgkfaaDooraI
import Derived.Lib.AppendZerosOnto
import Derived.Lib.SliceRun
namespace Go.Proofs.YtpogpfabnkgkfaaDoor
open Go.RowKit Go.BigFrame Go.Maps Go.Shelf Go.Sort
set_option maxRecDepth 100000

theorem cells_u8_one (l : List UInt8) : ∀ u ∈ cellsOf l, u.oneCell' = true := fun u hu => by
  obtain ⟨x, _, rfl⟩ := List.mem_map.1 hu; rfl
/-- A slice literal of one byte owns its row. -/
theorem own_lit (w : World) (x : Value) (t : TypeId) : (w.alloc (.cells #[x] t)).ownsRow w.heap.size t 1 (.slice (some ⟨w.heap.size, 0, none⟩) 1 1) 1 [x] :=
  ⟨rfl, Or.inr ⟨w.heap.size, 1, #[x], rfl, Nat.le_refl _, heap_alloc_new _ _, Nat.le_refl _, by unfold maxLen; omega, rfl, rfl⟩⟩

set_option maxHeartbeats 1000000 in
theorem below_any (b o cap : Nat) (l : List UInt8) (w : World) (hlen : l.length ≤ 1099511627776) (hb : b < w.heap.size) (h : ∀ j u, (cellsOf l)[j]? = some u → w.cell? ⟨b, o + j, none⟩ = some u) :
    Calls Tryd.prog 62 #[.slice (some ⟨b, o, none⟩) l.length cap] w fun e w' => ∃ v, e = .returned v ∧ w'.ownsRow w.heap.size 5 1 v (l.length + 1) (cellsOf (0 :: l)) ∧ Below w.heap.size w w' := by
  obtain ⟨i0, hi, hz0, hz1, hz2⟩ := info_parts Tryd.infoByte
  have HN : Hid (∀ j u, (cellsOf l)[j]? = some u → (w.alloc (.cells #[.int .u8 0] 5)).cell? ((⟨b, o, none⟩ : Addr).add j) = some u) := fun j u hj => by
    rw [Addr.add_mid, World.cell?_alloc_past _ _ _ hb]; exact h j u hj
  have H1 := Lib.hid (cells_u8_one l)
  have HL : Hid ((cellsOf l).length = l.length * 1) := by show _ = _; simp
  have hrow := Lib.hid (own_lit w (.int .u8 0) 5)
  clear h
  go_enter Tryd.func62, Tryd.ntmps62
  go_wp2_with (at_builtin; refine wpList_append_own _ rfl (.tmp 3) (.tmp 4) 22 rfl w.heap.size 5 i0 (.int .u8 0) 1 1 Tryd.underlying22 hi hz0 hz1 hz2 rfl (by decide) _ _ _ rfl hrow.out ⟨b, o, none⟩ l.length cap (cellsOf l) rfl HL.out HN.out H1.out (by unfold maxLen; omega) (by omega) (by simp) ?_; intro v' w1 hown hgrow hnil)
  have hb1 : Below w.heap.size w w1 := ((Below.refl _ _).alloc (Nat.le_refl _) _).grown hgrow (by simp) (fun k e => by cases e; exact Nat.le_refl _)
  go_ret
  exact ⟨v', rfl, by rw [Nat.add_comm] at hown; exact hown, hb1⟩

def leAt (n j : Nat) : UInt8 := UInt8.ofNat (n / 2 ^ (8 * j) % 256)
theorem le_byte (n j : Nat) : ((n : Int) / 2 ^ (8 * j)) % 256 = ((leAt n j).toNat : Int) := by
  have e : ((n : Int) / 2 ^ (8 * j)) % 256 = ((n / 2 ^ (8 * j) % 256 : Nat) : Int) := by
    rw [Int.natCast_emod, Int.natCast_ediv, Int.natCast_pow]; rfl
  rw [e, leAt, UInt8.toNat_ofNat', Nat.mod_mod]
theorem le_succ (n j : Nat) : (List.range (j + 1)).map (leAt n) = (List.range j).map (leAt n) ++ [leAt n j] := by rw [List.range_succ, List.map_append]; rfl
def crownS (n : Nat) (a : List UInt8) : List UInt8 := 2 :: ((List.range 8).map (leAt n) ++ a)
structure CrAt (w0 : World) (a : List UInt8) (xs : List UInt8) (v : Value) (w : World) : Prop where
  row : w.ownsRow w0.heap.size 5 1 v xs.length (cellsOf xs)
  below : Below w0.heap.size w0 w
  bx : w.heap[w0.heap.size]? = some (.cells (cellsOf a).toArray 30 (0, 0))
theorem CrAt.add {w0 wr w1 : World} {a xs ys : List UInt8} {v v' : Value} (k : CrAt w0 a xs v wr) (hown : w1.ownsRow w0.heap.size 5 1 v' (xs.length + ys.length) (cellsOf xs ++ cellsOf ys)) (hgrow : wr.grownBy w1 v.ownBlock) : CrAt w0 a (xs ++ ys) v' w1 := by
  have hlt : w0.heap.size < wr.heap.size := (Array.getElem?_eq_some_iff.1 k.bx).1
  refine ⟨?_, k.below.grown hgrow k.below.size (fun g e => (k.row.lt g e).1), ?_⟩
  · have e : cellsOf (xs ++ ys) = cellsOf xs ++ cellsOf ys := by simp [cellsOf]
    rw [e, List.length_append]
    exact hown
  · rw [hgrow.block _ hlt (own_ne k.row k.bx (by decide))]
    exact k.bx
theorem CrAt.alloc {w0 wr : World} {a xs : List UInt8} {v : Value} (k : CrAt w0 a xs v wr) (ob : Obj) : CrAt w0 a xs v (wr.alloc ob) :=
  ⟨k.row.alloc _, k.below.alloc k.below.size _, by rw [heap_alloc_old _ _ (Array.getElem?_eq_some_iff.1 k.bx).1]; exact k.bx⟩

set_option maxHeartbeats 2000000 in
theorem crown_any (n : Nat) (hn : n ≤ 1099511627776) (a : List UInt8) (ha : a.length = 32) (w : World) :
    Calls Tryd.prog 54 #[.int .i64 n, .agg (cellsOf a).toArray] w fun e w' => ∃ v, e = .returned v ∧ w'.ownsRow w.heap.size 5 1 v (crownS n a).length (cellsOf (crownS n a)) ∧ Below w.heap.size w w' := by
  obtain ⟨i0, hi, hz0, hz1, hz2⟩ := info_parts Tryd.infoByte
  have u0 : IntKind.u64.wrap (n : Int) = (n : Int) := by rw [IntKind.wrap_u64]; omega
  have HK0 : Hid (CrAt w a [2] (.slice (some ⟨w.heap.size + 1, 0, none⟩) 1 1) ((w.alloc (.cells (cellsOf a).toArray 30)).alloc (.cells #[.int .u8 2] 5))) := by
    have h := own_lit (w.alloc (.cells (cellsOf a).toArray 30)) (.int .u8 2) 5
    rw [World.size_alloc] at h
    exact ⟨row_base h (by omega), ((Below.refl _ _).alloc (Nat.le_refl _) _).alloc (by simp) _, heap_alloc2_old _ _ _⟩
  go_enter Tryd.func54, Tryd.ntmps54
  go_wp2
  go_loopw [5, 8] (fun sv cn wr => ∃ (j : Nat) (xs : List UInt8) (a1 : Option Addr) (c1 : Nat), j ≤ 8 ∧ cn = .int .i64 j ∧ sv = .slice a1 xs.length c1 ∧ Hid (CrAt w a xs (.slice a1 xs.length c1) wr ∧ xs = [2] ++ (List.range j).map (leAt n))) (fun _ cn _ => 8 - (intOf cn).toNat)
  case atStart => exact ⟨0, [2], _, 1, by omega, rfl, rfl, HK0.out, rfl⟩
  case round =>
    obtain ⟨j, xs, a1, c1, hj, rfl, rfl, HK⟩ := hrel
    have hxl : xs.length ≤ 9 := by rw [HK.out.2]; simp; omega
    by_cases hj8 : j < 8
    · have hbv := le_byte n j
      have v1 : IntKind.i64.wrap (8 * (j : Int)) = 8 * (j : Int) := by rw [IntKind.wrap_i64]; omega
      have s0 : 0 ≤ 8 * (j : Int) := by omega
      have s1 : 8 * (j : Int) ≤ 64 := by omega
      have HY : Hid (xs ++ [leAt n j] = [2] ++ (List.range (j + 1)).map (leAt n)) := by
        show _ = _
        rw [le_succ, HK.out.2, List.append_assoc]
      generalize leAt n j = cc at *
      go_wp2_with (at_builtin; refine wpList_append_own _ rfl (.tmp 11) (.tmp 18) 22 rfl w.heap.size 5 i0 (.int .u8 0) 1 1 Tryd.underlying22 hi hz0 hz1 hz2 rfl (by decide) _ _ _ rfl (HK.out.1.row.alloc _) ⟨wr.heap.size, 0, none⟩ 1 1 [.int .u8 (cc.toNat : Int)] rfl rfl (c1_u8 _ _ _) (by simp [Value.oneCell']) (by unfold maxLen; omega) (by omega) (by have := HK.out.1.below.size; simp; omega) ?_; intro v2 w2 hown hgrow hnil; have HK2 := Lib.hid ((HK.out.1.alloc _).add (ys := [cc]) hown hgrow); clear hown hgrow hnil; obtain ⟨ao3, cp3, rfl, _⟩ := row_shape HK2.out.row)
      go_roundw
      case rel => exact ⟨j + 1, xs ++ [cc], ao3, cp3, by omega, by go_num, by rw [List.length_append]; rfl, HK2.out, HY.out⟩
      case measure => simp [intOf]; omega
    · obtain rfl : j = 8 := by omega
      have HN : Hid (∀ i u, (cellsOf a)[i]? = some u → wr.cell? ((⟨w.heap.size, 0, none⟩ : Addr).add i) = some u) := fun i u hi => by
        rw [Addr.add_mid, cell_of_row _ _ _ _ _ _ HK.out.1.bx, Nat.zero_add]; simpa using hi
      have HLA : Hid ((cellsOf a).length = 32 * 1) := by show _ = _; rw [length_cellsOf, ha]
      have H1 := Lib.hid (cells_u8_one a)
      go_wp2_with (at_builtin; refine wpList_append_own _ rfl (.tmp 21) (.tmp 22) 22 rfl w.heap.size 5 i0 (.int .u8 0) 1 1 Tryd.underlying22 hi hz0 hz1 hz2 rfl (by decide) _ _ _ rfl HK.out.1.row ⟨w.heap.size, 0, none⟩ 32 32 (cellsOf a) rfl HLA.out HN.out H1.out (by unfold maxLen; omega) (by omega) (by have := HK.out.1.below.size; omega) ?_; intro v2 w2 hown hgrow hnil; have HK2 := Lib.hid (HK.out.1.add (ys := a) (by rw [ha]; exact hown) hgrow); clear hown hgrow hnil)
      go_ret
      have e : xs ++ a = crownS n a := by rw [HK.out.2]; rfl
      have hr := HK2.out.row
      rw [e] at hr
      exact ⟨v2, rfl, hr, HK2.out.below⟩
end Go.Proofs.YtpogpfabnkgkfaaDoor
