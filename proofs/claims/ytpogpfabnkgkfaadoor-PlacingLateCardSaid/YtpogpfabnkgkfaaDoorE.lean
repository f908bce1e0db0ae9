/- wanted.all, walked at three tests: for every map of states. -/
import Derived.Test.YtpogpfabnkgkfaaDoorD
import Derived.Shelf.SortM.Plain
import Derived.Shelf.SortM.SortNone
import Derived.Shelf.SlIterI.Nil
namespace Go.Proofs.YtpogpfabnkgkfaaDoor
open Go.RowKit Go.BigFrame Go.Maps Go.Shelf Go.Sort

theorem sortsA (m : Nat) : AnyZI.SortsIn Tryd.prog Tryd.sortedA_ren Fence.wide m :=
  ⟨fun blk off cap ss W hH hblk hsz => callsIn_wide.2 (AnyM.slices_Sort_int Tryd.sortA blk off cap ss W hH hblk hsz),
   fun p cap W => callsIn_wide.2 (AnyM.slices_Sort_int_none Tryd.sortA p cap W)⟩

theorem keys_any (mb : Option Nat) (w : World) :
    Calls Tryd.prog 38 #[.map mb] w fun e w' => e = .returned (.func (.func 57) #[] #[.pointer (some ⟨w.heap.size, 0, none⟩)]) ∧ w' = w.alloc (.cells #[.map mb] 56) :=
  callsIn_wide.1 (AnyZI.keys_in Tryd.keysA Fence.wide 5 trivial rfl mb w)

theorem sorted_of_perm {ss : List Int} {st : Int → Int × Int} {D : DataW Unit} (h : ss.Perm (intKeys D)) (hk : (keysSt st).Perm (intKeys D)) : ss.mergeSort (fun x y => decide (x ≤ y)) = keysSt st := by
  have e := mergeSort_of_perm_i (h.trans hk.symm)
  rw [show ss.mergeSort (fun x y => decide (x ≤ y)) = ss.mergeSort leI from rfl, e]
  have tr : ∀ a b c : Int, leI a b = true → leI b c = true → leI a c = true := fun a b c h1 h2 => by simp only [leI, decide_eq_true_eq] at *; exact Int.le_trans h1 h2
  have to : ∀ a b : Int, (leI a b || leI b a) = true := fun a b => by simp only [leI, Bool.or_eq_true, decide_eq_true_eq]; exact Int.le_total a b
  refine List.Perm.eq_of_pairwise (le := fun a b => leI a b = true) (fun a b _ _ h1 h2 => ?_) (List.pairwise_mergeSort tr to _) ?_ (List.mergeSort_perm _ _)
  · simp only [leI, decide_eq_true_eq] at h1 h2
    exact Int.le_antisymm h1 h2
  · exact (keysSt_sorted st).imp (fun h => by simp only [leI, decide_eq_true_eq]; omega)

set_option maxHeartbeats 1000000 in
theorem sorted_any (mb : Nat) (st : Int → Int × Int) (w : World) (h : MapSt w mb st) :
    Calls Tryd.prog 37 #[.func (.func 57) #[] #[.pointer (some ⟨w.heap.size, 0, none⟩)]] (w.alloc (.cells #[.map (some mb)] 56)) fun e w' => ∃ v, e = .returned v ∧
      w'.ownsRow (w.heap.size + 1) 3 1 v (keysSt st).length ((keysSt st).map (Value.int .i64)) ∧ Below (w.heap.size + 1) (w.alloc (.cells #[.map (some mb)] 56)) w' := by
  obtain ⟨D, hown, hD⟩ := h
  have hbl := hown.lt
  have hsz := size_le hown hD
  have hp := keys_perm hown hD
  have hseq : SeqGives Fence.wide 2 Tryd.prog 57 #[.pointer (some ⟨w.heap.size, 0, none⟩)] encZ (fun ss => ss.Perm (intKeys D)) (Maps.size D) (w.alloc (.cells #[.map (some mb)] 56)) :=
    AnyZI.keys_gives (ρ := Tryd.keysA_ren) { Tryd.keysA with } Fence.wide _ trivial rfl (by omega) w.heap.size mb 64 D _ (by simp) (by simp) (by
      obtain ⟨es, clock, hb, Ft, hs, hD⟩ := hown
      exact ⟨es, clock, (Below.heap_alloc _ _ mb hbl).trans hb, Ft, hs, hD⟩)
  have cS := AnyZI.sorted_in Tryd.sortedA Fence.wide 5 trivial trivial trivial trivial rfl (by omega) (sortsA _) (enters_of Tryd.func56 (by kernel_rfl) rfl) 57 #[.pointer (some ⟨w.heap.size, 0, none⟩)] trivial (enters_of Tryd.func57 (by kernel_rfl) rfl) _ _ (by unfold maxLen; omega) (by omega) _ hseq
  change CallsIn _ _ Tryd.prog 37 _ _ _ at cS
  refine (callsIn_wide.1 cS).mono ?_
  rintro e w' ⟨v, ss, rfl, hS, hrow, hnil, hb⟩
  have hl : ss.length = (keysSt st).length := (hS.trans hp.symm).length_eq
  rw [sorted_of_perm hS hp, hl] at hrow
  have hrow2 : w'.ownsRow (w.heap.size + 1) 3 1 v (keysSt st).length ((keysSt st).map (Value.int .i64)) := by
    have h := hrow
    rw [World.size_alloc] at h
    exact h
  have hb2 : Below (w.heap.size + 1) (w.alloc (.cells #[.map (some mb)] 56)) w' := by
    have h := hb
    rw [World.size_alloc] at h
    exact h
  exact ⟨v, rfl, hrow2, hb2⟩

theorem grown_of_below {w w' : World} (h : Below w.heap.size w w') : w.grownBy w' none := ⟨h.os, h.tape, h.output, h.size, fun k hk _ => h.block k hk⟩
theorem row_below {w w' : World} {base e size n : Nat} {v : Value} {xs : List Value} (h : w.ownsRow base e size v n xs) (hb : Below w.heap.size w w') : w'.ownsRow base e size v n xs := by
  refine h.kept (grown_of_below hb) ?_
  cases hv : v.ownBlock with
  | none => exact Or.inl rfl
  | some b => exact Or.inr (by simp)
theorem row_base {w : World} {base base' e size n : Nat} {v : Value} {xs : List Value} (h : w.ownsRow base e size v n xs) (hb : base' ≤ base) : w.ownsRow base' e size v n xs := by
  obtain ⟨h1, h2⟩ := h
  refine ⟨h1, ?_⟩
  rcases h2 with h2 | ⟨g, cap, cur, a, b, c⟩
  · exact Or.inl h2
  · exact Or.inr ⟨g, cap, cur, a, Nat.le_trans hb b, c⟩
theorem MapSt.below {w w' : World} {mb : Nat} {st : Int → Int × Int} (h : MapSt w mb st) (hb : Below w.heap.size w w') : MapSt w' mb st := h.kept (Only.of_below (F := fun _ => False) hb) (fun h => h)
/-- What a slice that is not empty is. -/
theorem row_slice {w : World} {base e size n : Nat} {v : Value} {xs : List Value} (h : w.ownsRow base e size v n xs) (hn : n ≠ 0) : ∃ g cap, v = .slice (some ⟨g, 0, none⟩) n cap ∧ base ≤ g ∧ g < w.heap.size := by
  rcases h.2 with ⟨_, h2⟩ | ⟨g, cap, cur, a, b, c, _⟩
  · exact absurd h2 hn
  · exact ⟨g, cap, a, b, (Array.getElem?_eq_some_iff.1 c).1⟩
theorem int_cell {w : World} {base : Nat} {v : Value} {xs : List Int} {g n cap : Nat} (h : w.ownsRow base 3 1 v n (xs.map (Value.int .i64))) (hv : v = .slice (some ⟨g, 0, none⟩) n cap) (j : Nat) (hj : j < n) :
    w.cell? ⟨g, j, none⟩ = some (.int .i64 (xs.getD j 0)) := by
  subst hv
  have hl : xs.length = n := by simpa using h.1
  have e := h.cells (g := g) rfl j (.int .i64 (xs.getD j 0)) (by simp [List.getD, show j < xs.length by omega])
  rwa [Addr.add_mid, Nat.zero_add] at e

theorem busyV (x : Int × Int) (w : World) : Calls Tryd.prog 23 #[stV x] w fun e w' => e = .returned (.bool (busyB x.1)) ∧ Below w.heap.size w w' := busy_any x.1 x.2 w
theorem holderV (x : Int × Int) (w : World) : Calls Tryd.prog 33 #[stV x] w fun e w' => e = .returned (.bool (x.1 == 3)) ∧ Below w.heap.size w w' := holder1_any x.1 x.2 w

theorem lateV (x : Int × Int) (now : Int) (c : Nat) (hs : 0 ≤ x.2 ∧ x.2 ≤ 18446744073709551615) (hn : 0 ≤ now) (hn' : now ≤ 18446744073709551615) (w : World) (hc : c < w.heap.size) (h0 : w.cell? ⟨c, 0, none⟩ = some (.int .u64 now)) : Calls Tryd.prog 21 #[stV x, .pointer (some ⟨c, 0, none⟩)] w fun e w' => e = .returned (.bool (lateB x.1 x.2 now)) ∧ Below w.heap.size w w' := late1_any x.1 x.2 now c hs.1 hs.2 hn hn' w hc h0

def allOf (st : Int → Int × Int) (p : Int × Int → Bool) : List Int := (keysSt st).filter (fun k => p (st k))
theorem take_filter_snoc (l : List Int) (p : Int → Bool) (k : Nat) (h : k < l.length) : (l.take (k + 1)).filter p = (l.take k).filter p ++ (if p (l.getD k 0) = true then [l.getD k 0] else []) := by
  rw [List.take_succ_eq_append_getElem h, List.filter_append]
  congr 1
  have e : l.getD k 0 = l[k] := by simp [List.getD, h]
  rw [e]
  by_cases hp : p l[k] = true <;> simp [hp]
theorem Tryd.infoInt : (Tryd.prog.info? 3).map (fun i => (i.zero, i.size, i.bytes)) = some (some (.int .i64 0), 1, 8) := by kernel_rfl


theorem row_shape {w : World} {base e size n : Nat} {v : Value} {xs : List Value} (h : w.ownsRow base e size v n xs) : ∃ ao cap, v = .slice ao n cap ∧ (n ≠ 0 → ∃ g, ao = some ⟨g, 0, none⟩ ∧ base ≤ g ∧ g < w.heap.size) := by
  rcases h.2 with ⟨h1, h2⟩ | ⟨g, cap, cur, a, b, c, _⟩
  · exact ⟨none, 0, by rw [h1, h2], fun hn => absurd h2 hn⟩
  · exact ⟨some ⟨g, 0, none⟩, cap, a, fun _ => ⟨g, rfl, b, (Array.getElem?_eq_some_iff.1 c).1⟩⟩
theorem c1_int (wr : World) (x : Int) (t : TypeId) : ∀ j u, [Value.int .i64 x][j]? = some u → (wr.alloc (.cells #[.int .i64 x] t)).cell? ((⟨wr.heap.size, 0, none⟩ : Addr).add j) = some u := by
  intro j u hj
  match j, hj with
  | 0, hj => simp at hj; subst hj; simp [Addr.add]

set_option maxHeartbeats 2000000 in
theorem all_busy (wb mb : Nat) (st : Int → Int × Int) (w : World) (hm : w.cell? ⟨wb, 33, none⟩ = some (.map (some mb))) (hwb : wb < w.heap.size) (h : MapSt w mb st) :
    Calls Tryd.prog 20 #[.pointer (some ⟨wb, 0, none⟩), .func (.func 23) #[] #[]] w fun e w' => ∃ v, e = .returned v ∧ w'.ownsRow w.heap.size 3 1 v (allOf st fun x => busyB x.1).length ((allOf st fun x => busyB x.1).map (Value.int .i64)) ∧ Below w.heap.size w w' := by
  obtain ⟨i0, hi, hz0, hz1, hz2⟩ := info_parts Tryd.infoInt
  have hmb := h.lt
  have H := Lib.hid h
  clear h
  have HL : Hid (∀ k who, k < (keysSt st).length → who = (keysSt st).getD k 0 → ((keysSt st).take (k + 1)).filter (fun k => busyB (st k).1) = ((keysSt st).take k).filter (fun k => busyB (st k).1) ++ (if busyB (st who).1 = true then [who] else [])) := fun k who hk e => by rw [e]; exact take_filter_snoc _ _ k hk
  have HW : Hid (∀ k, k < (keysSt st).length → 0 ≤ (keysSt st).getD k 0 ∧ (keysSt st).getD k 0 < 64) := fun k hk => by
    have e : (keysSt st).getD k 0 ∈ keysSt st := by simp [List.getD, hk]
    exact mem_nodes.1 (List.mem_filter.1 e).1
  have hlen := keysSt_length st
  go_enter Tryd.func20, Tryd.ntmps20
  go_wp2_with (first
    | (go_at_call 38; refine (keys_any _ _).mono ?_; rintro e w1 ⟨rfl, rfl⟩)
    | (go_at_call 37; refine (sorted_any mb st w H.out).mono ?_; rintro e w1 ⟨v, rfl, hrow, hb⟩; obtain ⟨ao, cap, rfl, hao⟩ := row_shape hrow; have HR := Lib.hid hrow; clear hrow; have hsz := hb.size; rw [World.size_alloc] at hsz))
  have HA : Hid (((keysSt st).filter fun k => busyB (st k).1) = allOf st fun x => busyB x.1) := rfl
  have HB : Hid (Below w.heap.size w w1) := ((Below.refl _ w).alloc (Nat.le_refl _) _).trans (hb.mono (by omega))
  have HM : Hid (MapSt w1 mb st) := (H.out.below ((Below.refl _ w).alloc (Nat.le_refl _) _)).below (hb.mono (by simp))
  generalize hN : (keysSt st).length = N at *
  have HN := Lib.hid hN
  clear hN hb
  go_loopw [5, 7, 15] (fun vo _ cn wr => ∃ k : Nat, k ≤ N ∧ cn = .int .i64 k ∧ Hid (wr.ownsRow w1.heap.size 3 1 vo (((keysSt st).take k).filter fun k => busyB (st k).1).length ((((keysSt st).take k).filter fun k => busyB (st k).1).map (Value.int .i64))) ∧ Hid (Below w1.heap.size w1 wr))
    (fun _ _ cn _ => N - (intOf cn).toNat)
  case atStart => exact ⟨0, Nat.zero_le _, rfl, World.ownsRow_nil _ _ _ _, Below.refl _ _⟩
  case round =>
    obtain ⟨k, hk, rfl, HO, HS⟩ := hrel
    by_cases hlt : k < N
    · obtain ⟨g, rfl, hg1, hg2⟩ := hao (by omega)
      have hwho := HW.out k (by omega)
      have hc := int_cell HR.out rfl k (by omega)
      have HLk := Lib.hid (HL.out k _ hlt rfl)
      rw [← HS.out.cell (p := ⟨g, k, none⟩) hg2] at hc
      generalize (keysSt st).getD k 0 = who at hwho hc HLk
      have hl := MapSt.look (HM.out.below HS.out) (k := who) (by omega)
      have hmw : wr.cell? ⟨wb, 33, none⟩ = some (.map (some mb)) := by
        rw [HS.out.cell (p := ⟨wb, 33, none⟩) (by show wb < _; omega), HB.out.cell (p := ⟨wb, 33, none⟩) hwb]; exact hm
      by_cases hp : busyB (st who).1 = true
      · have HP := Lib.hid hp
        clear hp
        go_wp2_with (first
          | (go_at_call 23; refine (busyV (st who) _).mono ?_; rintro e w2 ⟨rfl, hb2⟩; rw [HP.out])
          | (at_builtin; refine wpList_append_own _ rfl (.tmp 27) (.tmp 29) 24 rfl w1.heap.size 3 i0 (.int .i64 0) 1 8 Tryd.underlying24 hi hz0 hz1 hz2 rfl (by decide) _ _ _ rfl ((row_below HO.out hb2).alloc _) ⟨w2.heap.size, 0, none⟩ 1 1 [.int .i64 who] rfl rfl (c1_int _ _ _) ?c2 ?c3 ?c4 ?c5 ?_))
        case c2 => intro u hu; simp at hu; subst hu; rfl
        case c3 => have := List.length_filter_le (fun k => busyB (st k).1) ((keysSt st).take k); have := List.length_take_le k (keysSt st); unfold maxLen; omega
        case c4 => have := List.length_filter_le (fun k => busyB (st k).1) ((keysSt st).take k); have := List.length_take_le k (keysSt st); omega
        case c5 => have := HS.out.size; have := hb2.size; simp only [World.size_alloc]; omega
        intro v' w3 hown hgrow _
        have HO3 := Lib.hid hown
        have hb3 := Lib.hid (((HS.out.trans (hb2.mono HS.out.size)).alloc (by have := HS.out.size; have := hb2.size; omega) _).grown hgrow (by have := HS.out.size; have := hb2.size; simp only [World.size_alloc]; omega) (fun j e => (HO.out.lt j e).1))
        clear hown hgrow hb2
        go_wp2
        go_roundw
        case rel => exact ⟨k + 1, by omega, by go_num, Lib.hid (by rw [HLk.out, if_pos HP.out]; simpa using HO3.out), hb3.out⟩
        case measure => simp [intOf]; omega
      · have HP := Lib.hid (Bool.eq_false_iff.2 hp)
        clear hp
        go_wp2_with (go_at_call 23; refine (busyV (st who) _).mono ?_; rintro e w2 ⟨rfl, hb2⟩; rw [HP.out])
        have HO2 := Lib.hid (row_below HO.out hb2)
        have hb3 := Lib.hid (HS.out.trans (hb2.mono HS.out.size))
        clear hb2
        go_roundw
        case rel => exact ⟨k + 1, by omega, by go_num, Lib.hid (by rw [HLk.out, HP.out]; simpa using HO2.out), hb3.out⟩
        case measure => simp [intOf]; omega
    · obtain rfl : k = N := by omega
      have HT : Hid ((keysSt st).take k = keysSt st) := List.take_of_length_le (by rw [HN.out]; exact Nat.le_refl _)
      go_wp2
      go_ret
      exact ⟨u5, rfl, by have h := HO.out; rw [HT.out, HA.out] at h; exact row_base h (by omega), HB.out.trans (HS.out.mono (by omega))⟩

set_option maxHeartbeats 2000000 in
theorem all_holder (wb mb : Nat) (st : Int → Int × Int) (w : World) (hm : w.cell? ⟨wb, 33, none⟩ = some (.map (some mb))) (hwb : wb < w.heap.size) (h : MapSt w mb st) :
    Calls Tryd.prog 20 #[.pointer (some ⟨wb, 0, none⟩), .func (.func 33) #[] #[]] w fun e w' => ∃ v, e = .returned v ∧ w'.ownsRow w.heap.size 3 1 v (allOf st fun x => (x.1 == 3)).length ((allOf st fun x => (x.1 == 3)).map (Value.int .i64)) ∧ Below w.heap.size w w' := by
  obtain ⟨i0, hi, hz0, hz1, hz2⟩ := info_parts Tryd.infoInt
  have hmb := h.lt
  have H := Lib.hid h
  clear h
  have HL : Hid (∀ k who, k < (keysSt st).length → who = (keysSt st).getD k 0 → ((keysSt st).take (k + 1)).filter (fun k => ((st k).1 == 3)) = ((keysSt st).take k).filter (fun k => ((st k).1 == 3)) ++ (if ((st who).1 == 3) = true then [who] else [])) := fun k who hk e => by rw [e]; exact take_filter_snoc _ _ k hk
  have HW : Hid (∀ k, k < (keysSt st).length → 0 ≤ (keysSt st).getD k 0 ∧ (keysSt st).getD k 0 < 64) := fun k hk => by
    have e : (keysSt st).getD k 0 ∈ keysSt st := by simp [List.getD, hk]
    exact mem_nodes.1 (List.mem_filter.1 e).1
  have hlen := keysSt_length st
  go_enter Tryd.func20, Tryd.ntmps20
  go_wp2_with (first
    | (go_at_call 38; refine (keys_any _ _).mono ?_; rintro e w1 ⟨rfl, rfl⟩)
    | (go_at_call 37; refine (sorted_any mb st w H.out).mono ?_; rintro e w1 ⟨v, rfl, hrow, hb⟩; obtain ⟨ao, cap, rfl, hao⟩ := row_shape hrow; have HR := Lib.hid hrow; clear hrow; have hsz := hb.size; rw [World.size_alloc] at hsz))
  have HA : Hid (((keysSt st).filter fun k => ((st k).1 == 3)) = allOf st fun x => (x.1 == 3)) := rfl
  have HB : Hid (Below w.heap.size w w1) := ((Below.refl _ w).alloc (Nat.le_refl _) _).trans (hb.mono (by omega))
  have HM : Hid (MapSt w1 mb st) := (H.out.below ((Below.refl _ w).alloc (Nat.le_refl _) _)).below (hb.mono (by simp))
  generalize hN : (keysSt st).length = N at *
  have HN := Lib.hid hN
  clear hN hb
  go_loopw [5, 7, 15] (fun vo _ cn wr => ∃ k : Nat, k ≤ N ∧ cn = .int .i64 k ∧ Hid (wr.ownsRow w1.heap.size 3 1 vo (((keysSt st).take k).filter fun k => ((st k).1 == 3)).length ((((keysSt st).take k).filter fun k => ((st k).1 == 3)).map (Value.int .i64))) ∧ Hid (Below w1.heap.size w1 wr))
    (fun _ _ cn _ => N - (intOf cn).toNat)
  case atStart => exact ⟨0, Nat.zero_le _, rfl, World.ownsRow_nil _ _ _ _, Below.refl _ _⟩
  case round =>
    obtain ⟨k, hk, rfl, HO, HS⟩ := hrel
    by_cases hlt : k < N
    · obtain ⟨g, rfl, hg1, hg2⟩ := hao (by omega)
      have hwho := HW.out k (by omega)
      have hc := int_cell HR.out rfl k (by omega)
      have HLk := Lib.hid (HL.out k _ hlt rfl)
      rw [← HS.out.cell (p := ⟨g, k, none⟩) hg2] at hc
      generalize (keysSt st).getD k 0 = who at hwho hc HLk
      have hl := MapSt.look (HM.out.below HS.out) (k := who) (by omega)
      have hmw : wr.cell? ⟨wb, 33, none⟩ = some (.map (some mb)) := by
        rw [HS.out.cell (p := ⟨wb, 33, none⟩) (by show wb < _; omega), HB.out.cell (p := ⟨wb, 33, none⟩) hwb]; exact hm
      by_cases hp : ((st who).1 == 3) = true
      · have HP := Lib.hid hp
        clear hp
        go_wp2_with (first
          | (go_at_call 33; refine (holderV (st who) _).mono ?_; rintro e w2 ⟨rfl, hb2⟩; rw [HP.out])
          | (at_builtin; refine wpList_append_own _ rfl (.tmp 27) (.tmp 29) 24 rfl w1.heap.size 3 i0 (.int .i64 0) 1 8 Tryd.underlying24 hi hz0 hz1 hz2 rfl (by decide) _ _ _ rfl ((row_below HO.out hb2).alloc _) ⟨w2.heap.size, 0, none⟩ 1 1 [.int .i64 who] rfl rfl (c1_int _ _ _) ?c2 ?c3 ?c4 ?c5 ?_))
        case c2 => intro u hu; simp at hu; subst hu; rfl
        case c3 => have := List.length_filter_le (fun k => ((st k).1 == 3)) ((keysSt st).take k); have := List.length_take_le k (keysSt st); unfold maxLen; omega
        case c4 => have := List.length_filter_le (fun k => ((st k).1 == 3)) ((keysSt st).take k); have := List.length_take_le k (keysSt st); omega
        case c5 => have := HS.out.size; have := hb2.size; simp only [World.size_alloc]; omega
        intro v' w3 hown hgrow _
        have HO3 := Lib.hid hown
        have hb3 := Lib.hid (((HS.out.trans (hb2.mono HS.out.size)).alloc (by have := HS.out.size; have := hb2.size; omega) _).grown hgrow (by have := HS.out.size; have := hb2.size; simp only [World.size_alloc]; omega) (fun j e => (HO.out.lt j e).1))
        clear hown hgrow hb2
        go_wp2
        go_roundw
        case rel => exact ⟨k + 1, by omega, by go_num, Lib.hid (by rw [HLk.out, if_pos HP.out]; simpa using HO3.out), hb3.out⟩
        case measure => simp [intOf]; omega
      · have HP := Lib.hid (Bool.eq_false_iff.2 hp)
        clear hp
        go_wp2_with (go_at_call 33; refine (holderV (st who) _).mono ?_; rintro e w2 ⟨rfl, hb2⟩; rw [HP.out])
        have HO2 := Lib.hid (row_below HO.out hb2)
        have hb3 := Lib.hid (HS.out.trans (hb2.mono HS.out.size))
        clear hb2
        go_roundw
        case rel => exact ⟨k + 1, by omega, by go_num, Lib.hid (by rw [HLk.out, HP.out]; simpa using HO2.out), hb3.out⟩
        case measure => simp [intOf]; omega
    · obtain rfl : k = N := by omega
      have HT : Hid ((keysSt st).take k = keysSt st) := List.take_of_length_le (by rw [HN.out]; exact Nat.le_refl _)
      go_wp2
      go_ret
      exact ⟨u5, rfl, by have h := HO.out; rw [HT.out, HA.out] at h; exact row_base h (by omega), HB.out.trans (HS.out.mono (by omega))⟩

set_option maxHeartbeats 2000000 in
theorem all_late (wb mb : Nat) (st : Int → Int × Int) (w : World) (hm : w.cell? ⟨wb, 33, none⟩ = some (.map (some mb))) (hwb : wb < w.heap.size) (h : MapSt w mb st) (now : Int) (hn : 0 ≤ now) (hn' : now ≤ 18446744073709551615) (c : Nat) (hcl0 : c < w.heap.size) (hcn0 : w.cell? ⟨c, 0, none⟩ = some (.int .u64 now)) :
    Calls Tryd.prog 20 #[.pointer (some ⟨wb, 0, none⟩), .func (.func 21) #[] #[.pointer (some ⟨c, 0, none⟩)]] w fun e w' => ∃ v, e = .returned v ∧ w'.ownsRow w.heap.size 3 1 v (allOf st fun x => lateB x.1 x.2 now).length ((allOf st fun x => lateB x.1 x.2 now).map (Value.int .i64)) ∧ Below w.heap.size w w' := by
  obtain ⟨i0, hi, hz0, hz1, hz2⟩ := info_parts Tryd.infoInt
  have hmb := h.lt
  have H := Lib.hid h
  clear h
  have HL : Hid (∀ k who, k < (keysSt st).length → who = (keysSt st).getD k 0 → ((keysSt st).take (k + 1)).filter (fun k => lateB (st k).1 (st k).2 now) = ((keysSt st).take k).filter (fun k => lateB (st k).1 (st k).2 now) ++ (if lateB (st who).1 (st who).2 now = true then [who] else [])) := fun k who hk e => by rw [e]; exact take_filter_snoc _ _ k hk
  have HW : Hid (∀ k, k < (keysSt st).length → 0 ≤ (keysSt st).getD k 0 ∧ (keysSt st).getD k 0 < 64) := fun k hk => by
    have e : (keysSt st).getD k 0 ∈ keysSt st := by simp [List.getD, hk]
    exact mem_nodes.1 (List.mem_filter.1 e).1
  have hlen := keysSt_length st
  go_enter Tryd.func20, Tryd.ntmps20
  go_wp2_with (first
    | (go_at_call 38; refine (keys_any _ _).mono ?_; rintro e w1 ⟨rfl, rfl⟩)
    | (go_at_call 37; refine (sorted_any mb st w H.out).mono ?_; rintro e w1 ⟨v, rfl, hrow, hb⟩; obtain ⟨ao, cap, rfl, hao⟩ := row_shape hrow; have HR := Lib.hid hrow; clear hrow; have hsz := hb.size; rw [World.size_alloc] at hsz))
  have HA : Hid (((keysSt st).filter fun k => lateB (st k).1 (st k).2 now) = allOf st fun x => lateB x.1 x.2 now) := rfl
  have HB : Hid (Below w.heap.size w w1) := ((Below.refl _ w).alloc (Nat.le_refl _) _).trans (hb.mono (by omega))
  have HM : Hid (MapSt w1 mb st) := (H.out.below ((Below.refl _ w).alloc (Nat.le_refl _) _)).below (hb.mono (by simp))
  generalize hN : (keysSt st).length = N at *
  have HN := Lib.hid hN
  clear hN hb
  go_loopw [5, 7, 15] (fun vo _ cn wr => ∃ k : Nat, k ≤ N ∧ cn = .int .i64 k ∧ Hid (wr.ownsRow w1.heap.size 3 1 vo (((keysSt st).take k).filter fun k => lateB (st k).1 (st k).2 now).length ((((keysSt st).take k).filter fun k => lateB (st k).1 (st k).2 now).map (Value.int .i64))) ∧ Hid (Below w1.heap.size w1 wr))
    (fun _ _ cn _ => N - (intOf cn).toNat)
  case atStart => exact ⟨0, Nat.zero_le _, rfl, World.ownsRow_nil _ _ _ _, Below.refl _ _⟩
  case round =>
    obtain ⟨k, hk, rfl, HO, HS⟩ := hrel
    by_cases hlt : k < N
    · obtain ⟨g, rfl, hg1, hg2⟩ := hao (by omega)
      have hwho := HW.out k (by omega)
      have hc := int_cell HR.out rfl k (by omega)
      have HLk := Lib.hid (HL.out k _ hlt rfl)
      rw [← HS.out.cell (p := ⟨g, k, none⟩) hg2] at hc
      generalize (keysSt st).getD k 0 = who at hwho hc HLk
      have hl := MapSt.look (HM.out.below HS.out) (k := who) (by omega)
      have hmw : wr.cell? ⟨wb, 33, none⟩ = some (.map (some mb)) := by
        rw [HS.out.cell (p := ⟨wb, 33, none⟩) (by show wb < _; omega), HB.out.cell (p := ⟨wb, 33, none⟩) hwb]; exact hm
      have HSi := Lib.hid (HM.out.since who)
      have hcl : c < wr.heap.size := by have := HB.out.size; have := HS.out.size; omega
      have hcn : wr.cell? ⟨c, 0, none⟩ = some (.int .u64 now) := by
        rw [HS.out.cell (p := ⟨c, 0, none⟩) (by show c < _; omega), HB.out.cell (p := ⟨c, 0, none⟩) hcl0]; exact hcn0
      by_cases hp : lateB (st who).1 (st who).2 now = true
      · have HP := Lib.hid hp
        clear hp
        go_wp2_with (first
          | (go_at_call 21; refine (lateV (st who) now c HSi.out hn hn' _ (by exact hcl) (by exact hcn)).mono ?_; rintro e w2 ⟨rfl, hb2⟩; rw [HP.out])
          | (at_builtin; refine wpList_append_own _ rfl (.tmp 27) (.tmp 29) 24 rfl w1.heap.size 3 i0 (.int .i64 0) 1 8 Tryd.underlying24 hi hz0 hz1 hz2 rfl (by decide) _ _ _ rfl ((row_below HO.out hb2).alloc _) ⟨w2.heap.size, 0, none⟩ 1 1 [.int .i64 who] rfl rfl (c1_int _ _ _) ?c2 ?c3 ?c4 ?c5 ?_))
        case c2 => intro u hu; simp at hu; subst hu; rfl
        case c3 => have := List.length_filter_le (fun k => lateB (st k).1 (st k).2 now) ((keysSt st).take k); have := List.length_take_le k (keysSt st); unfold maxLen; omega
        case c4 => have := List.length_filter_le (fun k => lateB (st k).1 (st k).2 now) ((keysSt st).take k); have := List.length_take_le k (keysSt st); omega
        case c5 => have := HS.out.size; have := hb2.size; simp only [World.size_alloc]; omega
        intro v' w3 hown hgrow _
        have HO3 := Lib.hid hown
        have hb3 := Lib.hid (((HS.out.trans (hb2.mono HS.out.size)).alloc (by have := HS.out.size; have := hb2.size; omega) _).grown hgrow (by have := HS.out.size; have := hb2.size; simp only [World.size_alloc]; omega) (fun j e => (HO.out.lt j e).1))
        clear hown hgrow hb2
        go_wp2
        go_roundw
        case rel => exact ⟨k + 1, by omega, by go_num, Lib.hid (by rw [HLk.out, if_pos HP.out]; simpa using HO3.out), hb3.out⟩
        case measure => simp [intOf]; omega
      · have HP := Lib.hid (Bool.eq_false_iff.2 hp)
        clear hp
        go_wp2_with (go_at_call 21; refine (lateV (st who) now c HSi.out hn hn' _ (by exact hcl) (by exact hcn)).mono ?_; rintro e w2 ⟨rfl, hb2⟩; rw [HP.out])
        have HO2 := Lib.hid (row_below HO.out hb2)
        have hb3 := Lib.hid (HS.out.trans (hb2.mono HS.out.size))
        clear hb2
        go_roundw
        case rel => exact ⟨k + 1, by omega, by go_num, Lib.hid (by rw [HLk.out, HP.out]; simpa using HO2.out), hb3.out⟩
        case measure => simp [intOf]; omega
    · obtain rfl : k = N := by omega
      have HT : Hid ((keysSt st).take k = keysSt st) := List.take_of_length_le (by rw [HN.out]; exact Nat.le_refl _)
      go_wp2
      go_ret
      exact ⟨u5, rfl, by have h := HO.out; rw [HT.out, HA.out] at h; exact row_base h (by omega), HB.out.trans (HS.out.mono (by omega))⟩
end Go.Proofs.YtpogpfabnkgkfaaDoor
