/- slices.Clone, DeleteFunc and MinFunc, walked where placing calls them. -/
import Derived.Test.YtpogpfabnkgkfaaDoorG
import Derived.Shelf.SlicesE.DeleteFunc
import Derived.WalkSpells
namespace Go.Proofs.YtpogpfabnkgkfaaDoor
open Go.RowKit Go.BigFrame Go.Maps Go.Shelf Go.Sort
set_option maxRecDepth 100000

abbrev Nd := {x : Int // 0 ≤ x ∧ x < 64}
instance : Inhabited Nd := ⟨⟨0, by omega⟩⟩
def encN (x : Nd) : Value := .int .i64 x.1

theorem only_sortWorld {α : Type} [Inhabited α] (enc : α → Value) (w : World) (blk off m : Nat) (dk : Array α) (os : Array Obj) : Only (fun i => i = blk) w (sortWorld enc w blk off m dk os) := by
  refine ⟨rfl, rfl, rfl, ?_, fun k hk hne => ?_⟩
  · simp [sortWorld, grow, putRow, mapBlock, Sort.ahead]
  · have hk' : k < (putRow enc (Sort.ahead w m) blk off dk).heap.size := by simpa [putRow, mapBlock, Sort.ahead] using hk
    show ((putRow enc (Sort.ahead w m) blk off dk).heap ++ os)[k]? = _
    rw [Array.getElem?_append_left hk']
    show (mapBlock (Sort.ahead w m) blk _).heap[k]? = _
    simp only [mapBlock, Array.getElem?_modify]
    rw [if_neg (fun e => hne e.symm)]
    rfl
theorem putRow_eq {α : Type} [Inhabited α] (enc : α → Value) (w : World) (blk off q : Nat) (d : Array α) : putRow enc (Sort.ahead w q) blk off d = sortWorld enc w blk off q d #[] := by
  unfold sortWorld; rw [grow_empty]

theorem egBest : ∀ args w, (callFunc 40 args).run Tryd.prog w = .ok (.enter 40 args) w := enters_of Tryd.func40 (by kernel_rfl) rfl

theorem gives_best1 (wb mb c : Nat) (st : Int → Int × Int) (x : Nd) (W : World) (hc : W.cell? ⟨c, 0, none⟩ = some (.pointer (some ⟨wb, 0, none⟩))) (hm : W.cell? ⟨wb, 33, none⟩ = some (.map (some mb))) (h : MapSt W mb st) :
    FnGives Tryd.prog 40 #[.pointer (some ⟨c, 0, none⟩)] #[encN x] (.bool ((st x.1).1 != 0)) W := by
  show Calls Tryd.prog 40 #[.int .i64 x.1, .pointer (some ⟨c, 0, none⟩)] W _
  exact (best1_any wb mb c st x.1 x.2 W hc hm h).mono fun e w' ⟨h1, h2⟩ => ⟨h1, 0, by rw [← h2]; rfl⟩

theorem delf_any (wb mb c g cap : Nat) (st : Int → Int × Int) (ps : List Nd) (w : World) (hrow : w.ownsRow 0 3 1 (.slice (some ⟨g, 0, none⟩) ps.length cap) ps.length (ps.map encN)) (hcap : ps.length ≤ 9223372036854775807)
    (hc : w.cell? ⟨c, 0, none⟩ = some (.pointer (some ⟨wb, 0, none⟩))) (hm : w.cell? ⟨wb, 33, none⟩ = some (.map (some mb))) (h : MapSt w mb st) (hgc : g ≠ c) (hgw : g ≠ wb) :
    Calls Tryd.prog 39 #[.slice (some ⟨g, 0, none⟩) ps.length cap, .func (.func 40) #[] #[.pointer (some ⟨c, 0, none⟩)]] w fun e w' =>
      e = .returned (.slice (some ⟨g, 0, none⟩) (ps.filter fun x => (st x.1).1 == 0).length cap) ∧ (∀ j u, ((ps.filter fun x => (st x.1).1 == 0).map encN)[j]? = some u → w'.cell? ⟨g, 0 + j, none⟩ = some u) ∧ Only (fun i => i = g) w w' := by
  have hlt : c < w.heap.size := block_lt_of_cell hc
  have hwlt : wb < w.heap.size := block_lt_of_cell hm
  have hn := hrow.2
  rcases hn with ⟨h1, _⟩ | ⟨g', cap', cur, h1, _, hg, hncap, hmax, hcs, htk⟩
  · cases h1
  obtain ⟨rfl, rfl⟩ : g' = g ∧ cap' = cap := by injection h1 with a b c; injection a with a; injection a with a; exact ⟨a.symm, c.symm⟩
  have hgm : ¬ (mb = g') := by
    intro e
    obtain ⟨D, ⟨es, clock, hb, _⟩, _⟩ := h
    rw [e, hg] at hb
    cases hb
  have hH : Holds encN w g' 0 ps.toArray := fun j hj => by
    have hj' : j < ps.length := by simpa using hj
    refine ⟨?_, frozen_of_row _ _ _ _ _ hg⟩
    have e := hrow.cells (g := g') rfl j (encN ps[j]) (by simp [hj'])
    rw [Addr.add_mid] at e
    rw [e]
    congr 2
    rw [getElem!_pos _ j hj]; simp
  have key : ∀ W, Only (fun i => i = g') w W → ∀ x : Nd, FnGives Tryd.prog 40 #[.pointer (some ⟨c, 0, none⟩)] #[encN x] (.bool ((st x.1).1 != 0)) W := fun W hW x =>
    gives_best1 wb mb c st x W (by rw [World.cell?_of_block (w := w) (hW.block c hlt (fun e => hgc e.symm))]; exact hc) (by rw [World.cell?_of_block (w := w) (hW.block wb hwlt (fun e => hgw e.symm))]; exact hm) (h.kept hW hgm)
  have hcon := AnyE.slices_DeleteFunc Tryd.delfA encN (fun _ => rfl) (fun x : Nd => (st x.1).1 != 0) 40 #[.pointer (some ⟨c, 0, none⟩)] egBest ⟨0, by omega⟩ Tryd.zeroValue3 g' 0 cap' ps.toArray w
    (fun W x hb => key W (Only.of_below hb) x) (fun n os dk x _ => key _ (only_sortWorld _ _ _ _ _ _ _) x) hH (by simpa using hcap) (by simpa using hncap)
  change Calls Tryd.prog 39 _ _ _ at hcon
  have ef : (ps.filter fun x => !((st x.1).1 != 0)) = ps.filter fun x => (st x.1).1 == 0 := by congr 1; funext x; simp [bne]
  have hle := List.length_filter_le (fun x : Nd => (st x.1).1 == 0) ps
  simp only [List.size_toArray] at hcon
  rw [ef] at hcon
  generalize (ps.filter fun x => (st x.1).1 == 0) = fs at hcon hle ⊢
  refine hcon.mono ?_
  rintro e w' ⟨rfl, q, rfl⟩
  have hsz : (fs ++ List.replicate (ps.length - fs.length) (⟨0, by omega⟩ : Nd)).toArray.size = ps.toArray.size := by simp; omega
  have hk := holds_putRow encN (Sort.ahead w q) g' 0 ps.toArray _ (holds_ahead encN w q g' 0 ps.toArray hH) hsz
  refine ⟨rfl, fun j u hj => ?_, by rw [putRow_eq]; exact only_sortWorld _ _ _ _ _ _ _⟩
  obtain ⟨hj1, hj2⟩ := List.getElem?_eq_some_iff.1 hj
  have hj3 : j < fs.length := by simpa using hj1
  have e := (hk j (by rw [hsz]; simp; omega)).1
  rw [e]
  congr 1
  rw [← hj2, getElem!_pos _ j (by rw [hsz]; simp; omega)]
  simp [hj3]

theorem eql_nil (t e : TypeId) (h : Tryd.prog.underlying t = some (.slice e)) (a : Option Addr) (n c : Nat) (w : World) : (binOp .eql t (.slice a n c) (.slice none 0 0)).run Tryd.prog w = .ok (.bool a.isNone) w := Lib.run_eql_slice_nil w t e a n c 0 0 h

theorem clone_nil_any (w : World) : Calls Tryd.prog 16 #[.slice none 0 0] w fun e w' => e = .returned (.slice none 0 0) ∧ w = w' := by
  have hq := eql_nil 24 3 Tryd.underlying24 none 0 0 w
  simp only [Option.isNone_none] at hq
  go_enter Tryd.func16, Tryd.ntmps16
  go_wp2
  go_ret
  exact ⟨rfl, rfl⟩
set_option maxHeartbeats 1000000 in
theorem clonei_any (b o cap : Nat) (xs : List Value) (w : World) (h1 : ∀ u ∈ xs, u.oneCell' = true) (hlen : xs.length ≤ 17592186044415) (h : ∀ j u, xs[j]? = some u → w.cell? ⟨b, o + j, none⟩ = some u) (hb : b < w.heap.size) :
    Calls Tryd.prog 16 #[.slice (some ⟨b, o, none⟩) xs.length cap] w fun e w' => ∃ v, e = .returned v ∧ w'.ownsRow w.heap.size 3 1 v xs.length xs ∧ Below w.heap.size w w' ∧ v ≠ .slice none 0 0 := by
  obtain ⟨i0, hi, hz0, hz1, hz2⟩ := info_parts Tryd.infoInt
  have hq := eql_nil 24 3 Tryd.underlying24 (some ⟨b, o, none⟩) xs.length cap w
  simp only [Option.isNone_some] at hq
  have HN : Hid (∀ j u, xs[j]? = some u → (w.alloc (.cells #[] 3)).cell? ((⟨b, o, none⟩ : Addr).add j) = some u) := fun j u hj => by
    rw [Addr.add_mid, World.cell?_alloc_past _ _ _ hb]; exact h j u hj
  have H1 := Lib.hid h1
  have hrow : Hid ((w.alloc (.cells #[] 3)).ownsRow w.heap.size 3 1 (.slice (some ⟨w.heap.size, 0, none⟩) 0 0) 0 []) := ⟨rfl, Or.inr ⟨w.heap.size, 0, #[], rfl, Nat.le_refl _, heap_alloc_new _ _, Nat.le_refl _, by unfold maxLen; omega, rfl, rfl⟩⟩
  clear h h1
  go_enter Tryd.func16, Tryd.ntmps16
  go_wp2_with (at_builtin; refine wpList_append_own _ rfl (.tmp 5) (.tmp 6) 24 rfl w.heap.size 3 i0 (.int .i64 0) 1 8 Tryd.underlying24 hi hz0 hz1 hz2 rfl (by decide) _ _ _ rfl hrow.out ⟨b, o, none⟩ xs.length cap xs rfl (by simp) HN.out H1.out (by unfold maxLen; omega) (by omega) (by simp) ?_; intro v' w1 hown hgrow hnil)
  have hb1 : Below w.heap.size w w1 := ((Below.refl _ _).alloc (Nat.le_refl _) _).grown hgrow (by simp) (fun k e => by cases e; exact Nat.le_refl _)
  go_ret
  exact ⟨v', rfl, by simpa using hown, hb1, fun e => absurd (show Value.slice (some ⟨w.heap.size, 0, none⟩) 0 0 = .slice none 0 0 from (hnil.1 e).1) (by simp)⟩
theorem Tryd.infoByte : (Tryd.prog.info? 5).map (fun i => (i.zero, i.size, i.bytes)) = some (some (.int .u8 0), 1, 1) := by kernel_rfl
theorem cloneb_nil_any (w : World) : Calls Tryd.prog 19 #[.slice none 0 0] w fun e w' => e = .returned (.slice none 0 0) ∧ w = w' := by
  have hq := eql_nil 22 5 Tryd.underlying22 none 0 0 w
  simp only [Option.isNone_none] at hq
  go_enter Tryd.func19, Tryd.ntmps19
  go_wp2
  go_ret
  exact ⟨rfl, rfl⟩
set_option maxHeartbeats 1000000 in
theorem cloneb_any (b o cap : Nat) (xs : List Value) (w : World) (h1 : ∀ u ∈ xs, u.oneCell' = true) (hlen : xs.length ≤ 17592186044415) (h : ∀ j u, xs[j]? = some u → w.cell? ⟨b, o + j, none⟩ = some u) (hb : b < w.heap.size) :
    Calls Tryd.prog 19 #[.slice (some ⟨b, o, none⟩) xs.length cap] w fun e w' => ∃ v, e = .returned v ∧ w'.ownsRow w.heap.size 5 1 v xs.length xs ∧ Below w.heap.size w w' ∧ v ≠ .slice none 0 0 := by
  obtain ⟨i0, hi, hz0, hz1, hz2⟩ := info_parts Tryd.infoByte
  have hq := eql_nil 22 5 Tryd.underlying22 (some ⟨b, o, none⟩) xs.length cap w
  simp only [Option.isNone_some] at hq
  have HN : Hid (∀ j u, xs[j]? = some u → (w.alloc (.cells #[] 5)).cell? ((⟨b, o, none⟩ : Addr).add j) = some u) := fun j u hj => by
    rw [Addr.add_mid, World.cell?_alloc_past _ _ _ hb]; exact h j u hj
  have H1 := Lib.hid h1
  have hrow : Hid ((w.alloc (.cells #[] 5)).ownsRow w.heap.size 5 1 (.slice (some ⟨w.heap.size, 0, none⟩) 0 0) 0 []) := ⟨rfl, Or.inr ⟨w.heap.size, 0, #[], rfl, Nat.le_refl _, heap_alloc_new _ _, Nat.le_refl _, by unfold maxLen; omega, rfl, rfl⟩⟩
  clear h h1
  go_enter Tryd.func19, Tryd.ntmps19
  go_wp2_with (at_builtin; refine wpList_append_own _ rfl (.tmp 5) (.tmp 6) 22 rfl w.heap.size 5 i0 (.int .u8 0) 1 1 Tryd.underlying22 hi hz0 hz1 hz2 rfl (by decide) _ _ _ rfl hrow.out ⟨b, o, none⟩ xs.length cap xs rfl (by simp) HN.out H1.out (by unfold maxLen; omega) (by omega) (by simp) ?_; intro v' w1 hown hgrow hnil)
  have hb1 : Below w.heap.size w w1 := ((Below.refl _ _).alloc (Nat.le_refl _) _).grown hgrow (by simp) (fun k e => by cases e; exact Nat.le_refl _)
  go_ret
  exact ⟨v', rfl, by simpa using hown, hb1, fun e => absurd (show Value.slice (some ⟨w.heap.size, 0, none⟩) 0 0 = .slice none 0 0 from (hnil.1 e).1) (by simp)⟩

def minOf (ws : List WM) (l : List Int) : Int := match l with
  | [] => 0
  | a :: l => l.foldl (fun m x => if ordW ws x m < 0 then x else m) a
theorem minOf_take_one (ws : List WM) (l : List Int) (h : 0 < l.length) : minOf ws (l.take 1) = l.getD 0 0 := by
  match l, h with
  | a :: l, _ => rfl
theorem minOf_snoc (ws : List WM) (l : List Int) (k : Nat) (h0 : 0 < k) (h : k < l.length) : minOf ws (l.take (k + 1)) = if ordW ws (l.getD k 0) (minOf ws (l.take k)) < 0 then l.getD k 0 else minOf ws (l.take k) := by
  match l, k, h0, h with
  | a :: l, k + 1, _, h =>
    have hk : k < l.length := by simpa using h
    simp only [List.take_succ_cons, minOf, List.getD_cons_succ]
    rw [List.take_succ_eq_append_getElem hk, List.foldl_append]
    have e : l.getD k 0 = l[k] := by simp [List.getD, hk]
    rw [e]
    rfl
theorem minOf_mem (ws : List WM) (l : List Int) (h : l ≠ []) : minOf ws l ∈ l := by
  match l, h with
  | a :: l, _ =>
    show List.foldl _ a l ∈ a :: l
    suffices H : ∀ (l : List Int) (a : Int), List.foldl (fun m x => if ordW ws x m < 0 then x else m) a l ∈ a :: l from H l a
    intro l
    induction l with
    | nil => intro a; simp
    | cons b l ih =>
      intro a
      rw [List.foldl_cons]
      have := ih (if ordW ws b a < 0 then b else a)
      split at this
      · rename_i hb; rw [if_pos hb]; exact List.mem_cons_of_mem _ this
      · rename_i hb; rw [if_neg hb]
        rcases List.mem_cons.1 this with h | h
        · rw [h]; exact List.mem_cons_self
        · exact List.mem_cons_of_mem _ (List.mem_cons_of_mem _ h)

set_option maxHeartbeats 2000000 in
theorem min_any (L : PL) (M : PM) (c g o cap : Nat) (l : List Int) (w : World) (hne : 0 < l.length) (hlen : l.length ≤ 64) (hl : ∀ x ∈ l, 0 ≤ x ∧ x < 64) (hg : g < w.heap.size)
    (hcell : ∀ j, j < l.length → w.cell? ⟨g, o + j, none⟩ = some (.int .i64 (l.getD j 0))) (h : PAt w L M) (hcl : c < w.heap.size) (hc : w.cell? ⟨c, 0, none⟩ = some (.pointer (some ⟨L.pb, 0, none⟩))) :
    Calls Tryd.prog 41 #[.slice (some ⟨g, o, none⟩) l.length cap, .func (.func 42) #[] #[.pointer (some ⟨c, 0, none⟩)]] w fun e w' => e = .returned (.int .i64 (minOf M.ws l)) ∧ Below w.heap.size w w' := by
  have H := Lib.hid h
  have HC := Lib.hid hcell
  have HL : Hid (∀ j, j < l.length → 0 ≤ l.getD j 0 ∧ l.getD j 0 < 64) := fun j hj => hl _ (by simp [List.getD, hj])
  have HM0 := Lib.hid (minOf_take_one M.ws l hne)
  have HMS : Hid (∀ k, 0 < k → k < l.length → minOf M.ws (l.take (k + 1)) = if ordW M.ws (l.getD k 0) (minOf M.ws (l.take k)) < 0 then l.getD k 0 else minOf M.ws (l.take k)) := minOf_snoc M.ws l
  have HB0 : Hid (Below w.heap.size w w) := Below.refl _ _
  have hc0 := hcell 0 hne
  have hr0 := HL.out 0 hne
  rw [Nat.add_zero] at hc0
  clear h hcell hl
  generalize l.getD 0 0 = x0 at hc0 hr0 HM0
  go_enter Tryd.func41, Tryd.ntmps41
  go_wp2
  go_loopw [5, 6] (fun m cn wr => ∃ k : Nat, 1 ≤ k ∧ k ≤ l.length ∧ cn = .int .i64 k ∧ (∃ y : Int, 0 ≤ y ∧ y < 64 ∧ m = .int .i64 y ∧ Hid (y = minOf M.ws (l.take k))) ∧ Hid (Below w.heap.size w wr)) (fun _ cn _ => l.length - (intOf cn).toNat)
  case atStart => exact ⟨1, Nat.le_refl _, hne, rfl, ⟨x0, hr0.1, hr0.2, rfl, HM0.out.symm⟩, HB0⟩
  case round =>
    obtain ⟨k, hk1, hk, rfl, ⟨y, hy0, hy1, rfl, HY⟩, HS⟩ := hrel
    by_cases hlt : k < l.length
    · have hx := HL.out k hlt
      have hck := HC.out k hlt
      have HX := Lib.hid (HMS.out k (by omega) hlt)
      rw [← HS.out.cell (p := ⟨g, o + k, none⟩) hg] at hck
      generalize l.getD k 0 = x at hx hck HX
      obtain ⟨hx0, hx1⟩ := hx
      have hcc : wr.cell? ⟨c, 0, none⟩ = some (.pointer (some ⟨L.pb, 0, none⟩)) := by rw [HS.out.cell (p := ⟨c, 0, none⟩) hcl]; exact hc
      have HCC := Lib.hid hcc
      have hcs : c < wr.heap.size := by have := HS.out.size; omega
      clear hcc
      by_cases hb : ordW M.ws x y < 0
      · have HP := Lib.hid hb
        have HR : Hid (x = minOf M.ws (l.take (k + 1))) := by have e := HX.out; rw [← HY.out, if_pos hb] at e; exact e.symm
        generalize hv : ordW M.ws x y = v at hb
        have HV := Lib.hid hv
        clear hv
        go_wp2_with (go_at_call 42; refine (best2_any L M c x y ⟨hx0, hx1⟩ ⟨hy0, hy1⟩ _ (by exact H.out.below HS.out) (by exact hcs) (by exact HCC.out)).mono ?_; rintro e w2 ⟨rfl, hb2⟩; rw [HV.out]; have hck2 := (hb2.cell (p := ⟨g, o + k, none⟩) (by show g < _; have := HS.out.size; omega)).trans hck)
        go_roundw
        case rel => exact ⟨k + 1, by omega, by omega, by go_num, ⟨x, hx0, hx1, rfl, HR⟩, Lib.hid (HS.out.trans (hb2.mono HS.out.size))⟩
        case measure => simp [intOf]; omega
      · have HR : Hid (y = minOf M.ws (l.take (k + 1))) := by have e := HX.out; rw [← HY.out, if_neg hb] at e; exact e.symm
        generalize hv : ordW M.ws x y = v at hb
        have HV := Lib.hid hv
        clear hv
        go_wp2_with (go_at_call 42; refine (best2_any L M c x y ⟨hx0, hx1⟩ ⟨hy0, hy1⟩ _ (by exact H.out.below HS.out) (by exact hcs) (by exact HCC.out)).mono ?_; rintro e w2 ⟨rfl, hb2⟩; rw [HV.out])
        go_roundw
        case rel => exact ⟨k + 1, by omega, by omega, by go_num, ⟨y, hy0, hy1, rfl, HR⟩, Lib.hid (HS.out.trans (hb2.mono HS.out.size))⟩
        case measure => simp [intOf]; omega
    · obtain rfl : k = l.length := by omega
      go_wp2
      go_ret
      exact ⟨ret_i (by rw [HY.out, List.take_of_length_le (Nat.le_refl _)]), HS.out⟩

end Go.Proofs.YtpogpfabnkgkfaaDoor
