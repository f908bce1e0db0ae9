/- A placer in memory; Placer.load walked. -/
import Derived.Test.YtpogpfabnkgkfaaDoorE
import Derived.Deep.RegionHeld3
namespace Go.Proofs.YtpogpfabnkgkfaaDoor
open Go.RowKit Go.BigFrame Go.Maps

/-! A placer in memory. -/
structure WL where
  wb : Nat
  bv : Value
  mb : Nat
structure WM where
  id : List UInt8
  bytes : List UInt8
  st : Int → Int × Int
structure PL where
  pb : Nat
  pv : Value
  lv : Value
  ws : List WL
structure PM where
  k : Int
  ps : List Int
  ws : List WM

structure WAt (w : World) (l : WL) (x : WM) : Prop where
  block : w.heap[l.wb]? = some (.cells ((cellsOf x.id ++ [l.bv, .map (some l.mb)]).toArray) 58 (0, 0))
  id : x.id.length = 32
  bytes : w.ownsRow 0 5 1 l.bv x.bytes.length (cellsOf x.bytes)
  len : 1 ≤ x.bytes.length ∧ x.bytes.length ≤ 1048576
  map : MapSt w l.mb x.st

structure PAt (w : World) (L : PL) (M : PM) : Prop where
  block : w.heap[L.pb]? = some (.cells #[.int .i64 M.k, L.pv, L.lv] 51 (0, 0))
  k : 1 ≤ M.k ∧ M.k ≤ 8
  ps : w.ownsRow 0 3 1 L.pv M.ps.length (M.ps.map (Value.int .i64))
  nodes : ∀ p ∈ M.ps, 0 ≤ p ∧ p < 64
  sorted : M.ps.Pairwise (· < ·)
  lv : w.ownsRow 0 54 1 L.lv L.ws.length (L.ws.map fun l => .pointer (some ⟨l.wb, 0, none⟩))
  many : L.ws.length ≤ 1048576
  len : L.ws.length = M.ws.length
  ws : ∀ (i : Nat) (l : WL) (x : WM), L.ws[i]? = some l → M.ws[i]? = some x → WAt w l x
  maps : (L.ws.map (·.mb)).Nodup

theorem WAt.lt {w : World} {l : WL} {x : WM} (h : WAt w l x) : l.wb < w.heap.size := (Array.getElem?_eq_some_iff.1 h.block).1
theorem WAt.mapCell {w : World} {l : WL} {x : WM} (h : WAt w l x) : w.cell? ⟨l.wb, 33, none⟩ = some (.map (some l.mb)) := by
  rw [cell_of_row _ _ _ _ _ _ h.block]
  have e := h.id
  simp [cellsOf, e]
theorem WAt.bytesCell {w : World} {l : WL} {x : WM} (h : WAt w l x) : w.cell? ⟨l.wb, 32, none⟩ = some l.bv := by
  rw [cell_of_row _ _ _ _ _ _ h.block]
  have e := h.id
  simp [cellsOf, e]
theorem WAt.idCells {w : World} {l : WL} {x : WM} (h : WAt w l x) : w.rangeAt l.wb 0 (cellsOf x.id) := by
  intro j v hj
  rw [Nat.zero_add, cell_of_row _ _ _ _ _ _ h.block]
  have hlt : j < (cellsOf x.id).length := (List.getElem?_eq_some_iff.1 hj).1
  simp only [List.getElem?_toArray]
  rw [List.getElem?_append_left hlt, hj]
theorem below_block {w w' : World} (hb : Below w.heap.size w w') {b : Nat} {o : Obj} (h : w.heap[b]? = some o) : w'.heap[b]? = some o := by
  rw [hb.block b (Array.getElem?_eq_some_iff.1 h).1]; exact h
theorem only_block {w w' : World} {F : Nat → Prop} (hb : Only F w w') {b : Nat} {o : Obj} (h : w.heap[b]? = some o) (hF : ¬ F b) : w'.heap[b]? = some o := by
  rw [hb.block b (Array.getElem?_eq_some_iff.1 h).1 hF]; exact h
theorem row_only {w w' : World} {base e size n : Nat} {v : Value} {xs : List Value} {F : Nat → Prop} (h : w.ownsRow base e size v n xs) (hb : Only F w w') (hF : ∀ g, v.ownBlock = some g → ¬ F g) : w'.ownsRow base e size v n xs := by
  obtain ⟨h1, h2⟩ := h
  refine ⟨h1, ?_⟩
  rcases h2 with h2 | ⟨g, cap, cur, a, b, c, r⟩
  · exact Or.inl h2
  · subst a
    exact Or.inr ⟨g, cap, cur, rfl, b, only_block hb c (hF g rfl), r⟩
theorem WAt.below {w w' : World} {l : WL} {x : WM} (h : WAt w l x) (hb : Below w.heap.size w w') : WAt w' l x :=
  ⟨below_block hb h.block, h.id, row_below h.bytes hb, h.len, h.map.below hb⟩
theorem PAt.below {w w' : World} {L : PL} {M : PM} (h : PAt w L M) (hb : Below w.heap.size w w') : PAt w' L M :=
  ⟨below_block hb h.block, h.k, row_below h.ps hb, h.nodes, h.sorted, row_below h.lv hb, h.many, h.len, fun i l x h1 h2 => (h.ws i l x h1 h2).below hb, h.maps⟩
theorem PAt.lt {w : World} {L : PL} {M : PM} (h : PAt w L M) : L.pb < w.heap.size := (Array.getElem?_eq_some_iff.1 h.block).1
theorem PAt.cells {w : World} {L : PL} {M : PM} (h : PAt w L M) : w.cell? ⟨L.pb, 0, none⟩ = some (.int .i64 M.k) ∧ w.cell? ⟨L.pb, 1, none⟩ = some L.pv ∧ w.cell? ⟨L.pb, 2, none⟩ = some L.lv := by
  refine ⟨?_, ?_, ?_⟩ <;> rw [cell_of_row _ _ _ _ _ _ h.block] <;> rfl
theorem ptr_cell {w : World} {base : Nat} {ws : List WL} {g n cap : Nat} (h : w.ownsRow base 54 1 (.slice (some ⟨g, 0, none⟩) n cap) n (ws.map fun l => .pointer (some ⟨l.wb, 0, none⟩))) (j : Nat) (l : WL) (hj : ws[j]? = some l) :
    w.cell? ⟨g, j, none⟩ = some (.pointer (some ⟨l.wb, 0, none⟩)) := by
  have e := h.cells (g := g) rfl j (.pointer (some ⟨l.wb, 0, none⟩)) (by simp [hj])
  rwa [Addr.add_mid, Nat.zero_add] at e
theorem PAt.at_ {w : World} {L : PL} {M : PM} (h : PAt w L M) {i : Nat} (hi : i < L.ws.length) : ∃ l x, L.ws[i]? = some l ∧ M.ws[i]? = some x ∧ WAt w l x := by
  have hi' : i < M.ws.length := by rw [← h.len]; exact hi
  exact ⟨L.ws[i], M.ws[i], by simp [hi], by simp [hi'], h.ws i _ _ (by simp [hi]) (by simp [hi'])⟩

/-! A slice that is read. -/
def SliceAt (w : World) (v : Value) (xs : List Value) : Prop :=
  (v = .slice none 0 0 ∧ xs = []) ∨ ∃ b o cap, v = .slice (some ⟨b, o, none⟩) xs.length cap ∧ b < w.heap.size ∧ xs.length ≤ cap ∧ ∀ j u, xs[j]? = some u → w.cell? ⟨b, o + j, none⟩ = some u
theorem SliceAt.of_row {w : World} {base e n : Nat} {v : Value} {xs : List Value} (h : w.ownsRow base e 1 v n xs) : SliceAt w v xs := by
  have hl : xs.length = n := by simpa using h.1
  rcases h.2 with ⟨a, b⟩ | ⟨g, cap, cur, rfl, b, c, hnc, _⟩
  · exact Or.inl ⟨a, List.eq_nil_of_length_eq_zero (by omega)⟩
  · refine Or.inr ⟨g, 0, cap, by rw [hl], (Array.getElem?_eq_some_iff.1 c).1, by omega, fun j u hj => ?_⟩
    have e := h.cells (g := g) rfl j u hj
    rwa [Addr.add_mid] at e
theorem SliceAt.below {w w' : World} {v : Value} {xs : List Value} (h : SliceAt w v xs) (hb : Below w.heap.size w w') : SliceAt w' v xs := by
  rcases h with h | ⟨b, o, cap, h1, h2, h4, h3⟩
  · exact Or.inl h
  · exact Or.inr ⟨b, o, cap, h1, by have := hb.size; omega, h4, fun j u hj => by rw [hb.cell (p := ⟨b, o + j, none⟩) h2]; exact h3 j u hj⟩

def loadOf (ws : List WM) (who : Int) : Nat := (ws.filter fun x => busyB (x.st who).1).length
theorem loadOf_snoc (ws : List WM) (who : Int) (k : Nat) (x : WM) (h : ws[k]? = some x) : loadOf (ws.take (k + 1)) who = loadOf (ws.take k) who + (if busyB (x.st who).1 = true then 1 else 0) := by
  obtain ⟨hk, e⟩ := List.getElem?_eq_some_iff.1 h
  unfold loadOf
  rw [List.take_succ_eq_append_getElem hk, List.filter_append, List.length_append, e]
  by_cases hp : busyB (x.st who).1 = true <;> simp [hp]

set_option maxHeartbeats 2000000 in
theorem load_any (L : PL) (M : PM) (who : Int) (hwho : 0 ≤ who ∧ who < 64) (w : World) (h : PAt w L M) :
    Calls Tryd.prog 45 #[.pointer (some ⟨L.pb, 0, none⟩), .int .i64 who] w fun e w' => e = .returned (.int .i64 (loadOf M.ws who : Int)) ∧ Below w.heap.size w w' := by
  obtain ⟨ao, cap, hlv, hao⟩ := row_shape h.lv
  obtain ⟨hw0, hw1⟩ := hwho
  have c2 := h.cells.2.2
  rw [hlv] at c2
  have HLV := Lib.hid hlv
  have hmany := h.many
  have H := Lib.hid h
  have HLEN := Lib.hid h.len
  clear hlv h
  generalize hN : L.ws.length = N at *
  have HN := Lib.hid hN
  clear hN
  go_enter Tryd.func45, Tryd.ntmps45
  go_wp2
  go_loopw [5, 7, 13] (fun n _ cn wr => ∃ k : Nat, k ≤ N ∧ cn = .int .i64 k ∧ (∃ c : Nat, c ≤ k ∧ n = .int .i64 c ∧ Hid (c = loadOf (M.ws.take k) who)) ∧ Hid (Below w.heap.size w wr)) (fun _ _ cn _ => N - (intOf cn).toNat)
  case atStart => exact ⟨0, Nat.zero_le _, rfl, ⟨0, Nat.le_refl _, rfl, rfl⟩, Below.refl _ _⟩
  case round =>
    obtain ⟨k, hk, rfl, ⟨c, hck, rfl, HC⟩, HS⟩ := hrel
    by_cases hlt : k < N
    · obtain ⟨g, rfl, hg1, hg2⟩ := hao (by omega)
      obtain ⟨l, x, h1, h2, hx⟩ := (H.out.below HS.out).at_ (i := k) (by rw [HN.out]; exact hlt)
      have hlw := (H.out.below HS.out).lv
      rw [HLV.out, HN.out] at hlw
      have hp := ptr_cell hlw k l h1
      have hm := hx.mapCell
      have hl := hx.map.look (k := who) (by omega)
      have HX := Lib.hid (loadOf_snoc M.ws who k x h2)
      clear hlw h1 h2 hx
      by_cases hb : busyB (x.st who).1 = true
      · have HP := Lib.hid hb
        clear hb
        go_wp2_with (go_at_call 23; refine (busyV (x.st who) _).mono ?_; rintro e w2 ⟨rfl, hb2⟩; rw [HP.out])
        go_roundw
        case rel => exact ⟨k + 1, by omega, by go_num, ⟨c + 1, by omega, by go_num, Lib.hid (by rw [HX.out, if_pos HP.out, HC.out])⟩, Lib.hid (HS.out.trans (hb2.mono HS.out.size))⟩
        case measure => simp [intOf]; omega
      · have HP := Lib.hid (Bool.eq_false_iff.2 hb)
        clear hb
        go_wp2_with (go_at_call 23; refine (busyV (x.st who) _).mono ?_; rintro e w2 ⟨rfl, hb2⟩; rw [HP.out])
        go_roundw
        case rel => exact ⟨k + 1, by omega, by go_num, ⟨c, by omega, rfl, Lib.hid (by rw [HX.out, HP.out, HC.out]; simp)⟩, Lib.hid (HS.out.trans (hb2.mono HS.out.size))⟩
        case measure => simp [intOf]; omega
    · obtain rfl : k = N := by omega
      go_wp2
      go_ret
      exact ⟨ret_i (by rw [HC.out, List.take_of_length_le (by rw [← HLEN.out]; exact Nat.le_refl _)]), HS.out⟩
end Go.Proofs.YtpogpfabnkgkfaaDoor
