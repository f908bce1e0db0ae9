/- Placer.Retry, walked. -/
import Derived.Test.YtpogpfabnkgkfaaDoorM
import Derived.Lib.SlMapFilter
import Derived.Maps.Ext
import Derived.Maps.RangeWalk
import Derived.Laws.IdiomRangeMap
import Derived.Deep.LoopGhost
namespace Go.Proofs.YtpogpfabnkgkfaaDoor
open Go.RowKit Go.BigFrame Go.Maps Go.Shelf Go.Sort
set_option maxRecDepth 100000

theorem stR_inv2 (v : Value) (z : DataW Unit × List MemPlace) (h : stR v = some z) : ∃ c, v = stV c := by
  unfold stR at h
  split at h
  · rename_i cs
    split at h
    · rename_i a b e
      refine ⟨(a, b), ?_⟩
      have : cs = #[.int .i64 a, .int .u64 b] := by rw [← Array.toArray_toList (xs := cs), e]
      rw [this]; rfl
    · cases h
  · cases h
def pdFail : Lit → DataW Unit → Bool := fun _ d => match d with
  | .agg [.lit (.int _ h), _] => h == 4
  | _ => false
theorem pdFail_st (kl : Lit) (x : Int × Int) : pdFail kl (stD x) = (x.1 == 4) := rfl
def retrySt (st : Int → Int × Int) : Int → Int × Int := fun k => if (st k).1 = 4 then (0, 0) else st k

theorem find_filter (q : Lit × DataW Unit → Bool) (k : Lit) : ∀ (es : List (Lit × DataW Unit)), es.Pairwise (fun p q => p.1 ≠ q.1) → (es.filter q).find? (fun p => p.1.sameKey k) = (es.find? (fun p => p.1.sameKey k)).filter q
  | [], _ => rfl
  | p :: es, h => by
    rw [List.pairwise_cons] at h
    have ih := find_filter q k es h.2
    simp only [List.filter_cons, List.find?_cons]
    by_cases hp : p.1.sameKey k = true
    · have hk : p.1 = k := WideAt.sameKey_eq hp
      have hno : (es.filter q).find? (fun p => p.1.sameKey k) = none := by
        rw [List.find?_eq_none]
        intro x hx hs
        exact h.1 x (List.mem_filter.1 hx).1 (hk.trans (WideAt.sameKey_eq hs).symm)
      cases hq : q p
      · simp [hp, hq, hno, Option.filter]
      · simp [hp, hq, Option.filter]
    · simp only [Bool.not_eq_true] at hp
      cases hq : q p
      · simp [hp, ih]
      · simp [hp, ih]
theorem MapD.retry {D : DataW Unit} {st : Int → Int × Int} (h : MapD D st) (ht : Tidy D) : MapD (Lib.deleteFuncD pdFail D) (retrySt st) := by
  obtain ⟨es, rfl, hp⟩ := ht
  have e : ∀ k, (DataW.map (es.filter fun p => !pdFail p.1 p.2)).atKey (.int .i64 k) (stD (0, 0)) = stD (retrySt st k) ∧ Maps.has (DataW.map (es.filter fun p => !pdFail p.1 p.2)) (.int .i64 k) = decide ((retrySt st k).1 ≠ 0) := by
    intro k
    have hf := find_filter (fun p => !pdFail p.1 p.2) (.int .i64 k) es hp
    have h1 := h.at_ k
    have h2 := h.has k
    have any_find : ∀ l : List (Lit × DataW Unit), l.any (fun p => p.1.sameKey (.int .i64 k)) = (l.find? (fun p => p.1.sameKey (.int .i64 k))).isSome := fun l => by rw [Bool.eq_iff_iff, List.find?_isSome, List.any_eq_true]
    rw [has_eq, any_find] at h2 ⊢
    simp only [DataW.atKey] at h1 ⊢
    rw [hf]
    cases hc : es.find? (fun p => p.1.sameKey (.int .i64 k)) with
    | none =>
      rw [hc] at h1 h2
      simp only [Option.isSome_none] at h2
      have h0 : (st k).1 = 0 := by simpa using h2.symm
      have hr : retrySt st k = st k := by unfold retrySt; rw [if_neg (by rw [h0]; decide)]
      simp only [Option.filter]
      rw [hr]
      exact ⟨h1, by simp [h0]⟩
    | some p =>
      rw [hc] at h1 h2
      simp only [Option.isSome_some] at h2
      have h0 : (st k).1 ≠ 0 := by simpa using h2.symm
      simp only at h1
      have hpd : pdFail p.1 p.2 = ((st k).1 == 4) := by rw [h1]; rfl
      simp only [Option.filter, hpd]
      unfold retrySt
      by_cases h4 : (st k).1 = 4
      · simp [h4]
      · simp [h4, h0, h1]
  refine ⟨⟨_, rfl⟩, fun k => (e k).1, fun k => (e k).2, fun k hk => h.dom k ?_, fun k => ?_⟩
  · intro h0
    apply hk
    unfold retrySt
    split
    · rfl
    · exact h0
  · unfold retrySt
    split
    · simp
    · exact h.since k

theorem failedV (k : Int) (x : Int × Int) (w : World) : Calls Tryd.prog 27 #[.int .i64 k, stV x] w fun e w' => e = .returned (.bool (x.1 == 4)) ∧ Below w.heap.size w w' := failed1_any k x.1 x.2 w

set_option maxHeartbeats 4000000 in
theorem mdel_any (mb : Nat) (st : Int → Int × Int) (w : World) (h : MapSt w mb st) :
    Calls Tryd.prog 26 #[.map (some mb), .func (.func 27) #[] #[]] w fun e w' => e = .returned (.tuple #[]) ∧ MapSt w' mb (retrySt st) ∧ Only (fun i => i = mb) w w' := by
  obtain ⟨D, hown, hD⟩ := h
  have htidy := hown.tidy law3
  suffices H : Calls Tryd.prog 26 #[.map (some mb), .func (.func 27) #[] #[]] w fun e w' => e = .returned (.tuple #[]) ∧ w'.ownsMap Tryd.prog 3 stR mb 64 (Lib.deleteFuncD pdFail D) ∧ w.grownBy w' (some mb) from
    H.mono fun e w' ⟨h1, h2, h3⟩ => ⟨h1, ⟨_, h2, hD.retry htidy⟩, Only.of_grown h3 (fun k e => (Option.some.inj e).symm)⟩
  have HAT : Hid (∀ kl d, (∀ zd, D.atKey kl zd = d) → True) := fun _ _ _ => trivial
  clear hD htidy HAT
  obtain ⟨es0, rfl, hap, hkeys⟩ := hown.entries law3
  have HAP := Lib.hid hap
  have HK := Lib.hid hkeys
  clear hap hkeys
  go_enter Tryd.func26, Tryd.ntmps26
  go_wp2_with (first
    | (at_range; refine wpList_range_own _ rfl _ 56 rfl 3 61 law3 Tryd.underlying56 stR mb 64 _ rfl hown ?_; intro w0 hrg0 hg0 hs0)
    | go_in)
  go_frame
  go_loopw [8] (fun _ wr => ∃ (left : Lit → Bool) (cnt : Nat), Hid (wr.ranges Tryd.prog 3 stR mb w.heap.size 64 (Fk pdFail es0 left) left cnt) ∧ Hid (w.grownBy wr (some mb)))
    (fun _ wr => wr.rangeLeft mb w.heap.size)
  case atStart => exact ⟨_, _, Lib.hid (by rw [Fk_start HK.out]; exact hrg0), Lib.hid (hg0.but _)⟩
  case round =>
    obtain ⟨left, cnt, HRG, HGW⟩ := hrel
    go_wp2_with (first
      | (at_next; refine wpList_next_ranges _ rfl _ rfl 3 law3 stR (Value.int .i64) stV (fun key kl hk => by obtain ⟨x, hx, _⟩ := Maps.keyOf_i64 Tryd.underlying3 hk; exact ⟨x, hx⟩) stR_inv2 mb w.heap.size 64 _ _ _ rfl HRG.out ?_ ?_)
      | go_in)
    · intro _ hl0
      have HL := Lib.hid hl0
      clear hl0
      go_wp2
      go_end0
      exact ⟨rfl, by rw [← Fk_end HL.out]; exact HRG.out.owns, HGW.out⟩
    · intro x ch cs kl yd yp w1 cnt1 hkey hlx hv hat hrg1 hlt hg1 hs1 hen
      have hyd : yd = stD (ch, cs) := by have e : stR (stV (ch, cs)) = some (stD (ch, cs), []) := stR_mk _; rw [e] at hv; injection hv with hv; injection hv with hv _; exact hv.symm
      have HKEY := Lib.hid hkey
      have HLX := Lib.hid hlx
      have HAT := Lib.hid hat
      have HYD := Lib.hid hyd
      have HRG1 := Lib.hid hrg1
      have HLT := Lib.hid hlt
      have HGW1 := Lib.hid (HGW.out.andThen hg1 (fun j hj => by cases hj; exact Or.inl (Nat.le_refl _)))
      have HEN := Lib.hid hen
      clear hkey hlx hv hat hyd hrg1 hlt hg1 hen
      have hen : (Instr.entry (.pointer (some ⟨w.heap.size, 0, none⟩))).run Tryd.prog w1 = .ok (.tuple #[.int .i64 x, .agg #[.int .i64 ch, .int .u64 cs]]) w1 := HEN.out
      have HGA := fun o1 o2 => Lib.hid ((HGW1.out.andThen (World.grownBy_alloc w1 o1 none) (fun j hj => by cases hj)).andThen (World.grownBy_alloc (w1.alloc o1) o2 none) (fun j hj => by cases hj))
      have HRA := fun o1 o2 => Lib.hid ((HRG1.out.alloc o1).alloc o2)
      by_cases h4 : ch = 4
      · subst h4
        have hpd : pdFail kl yd = true := by rw [HYD.out]; rfl
        have HPD := Lib.hid hpd
        clear hpd
        go_wp2_with (first
          | (at_delete; refine wpList_delete_ranges _ rfl _ _ 56 3 rfl 61 law3 Tryd.underlying56 stR mb w.heap.size 64 _ _ _ rfl (HRA _ _).out _ _ rfl HKEY.out ?_; intro w3 cnt3 hrg3 hle hturn; have HRG3 := Lib.hid hrg3; have HTU := Lib.hid hturn; clear hrg3 hturn; go_frame)
          | go_in)
        have hrg3 := HRG3.out
        rw [strike_twice] at hrg3
        have HR3 := Lib.hid hrg3
        clear hrg3
        go_roundw
        case rel => exact ⟨_, cnt3, Lib.hid (by rw [← Fk_struck HAP.out (law3.key HKEY.out) HLX.out HPD.out HAT.out]; exact HR3.out), Lib.hid ((HGA _ _).out.andThen HTU.out.grown (fun j hj => by cases hj; exact Or.inr rfl))⟩
        case measure => rw [HR3.out.left_eq, HRG.out.left_eq]; have := HLT.out; omega
      · have hpd : pdFail kl yd = false := by rw [HYD.out, pdFail_st]; simpa using h4
        have HPD := Lib.hid hpd
        clear hpd
        go_wp2
        exact ⟨⟨_, cnt1, Lib.hid (by rw [← Fk_stays HAP.out (law3.key HKEY.out) HLX.out HPD.out HAT.out]; exact (HRA _ _).out), HGA _ _⟩, by rw [(HRA _ _).out.left_eq, HRG.out.left_eq]; exact HLT.out⟩

def retryTo (M : PM) : Nat → PM
  | 0 => M
  | k + 1 => (retryTo M k).setSt k (retrySt ((retryTo M k).stOf k))

set_option maxHeartbeats 2000000 in
theorem retry_any (L : PL) (M : PM) (w : World) (h : PAt w L M) :
    Calls Tryd.prog 8 #[.pointer (some ⟨L.pb, 0, none⟩)] w fun e w' => e = .returned (.tuple #[]) ∧ PAt w' L (retryTo M M.ws.length) ∧ Only (inMaps L) w w' := by
  obtain ⟨ao, cap, hlv, hao⟩ := row_shape h.lv
  have c2 := h.cells.2.2
  rw [hlv] at c2
  have HLV := Lib.hid hlv
  have hmany := h.many
  have H := Lib.hid h
  have HLEN := Lib.hid h.len
  clear hlv h
  generalize hN : L.ws.length = N at *
  have HN := Lib.hid hN
  clear hN
  go_enter Tryd.func8, Tryd.ntmps8
  go_wp2
  go_loopw [11] (fun cn wr => ∃ k : Nat, k ≤ N ∧ cn = .int .i64 k ∧ Hid (PAt wr L (retryTo M k)) ∧ Hid (Only (inMaps L) w wr)) (fun cn _ => N - (intOf cn).toNat)
  case atStart => exact ⟨0, Nat.zero_le _, rfl, H, Only.refl _ _⟩
  case round =>
    obtain ⟨k, hk, rfl, HP, HS⟩ := hrel
    by_cases hlt : k < N
    · obtain ⟨g, rfl, hg1, hg2⟩ := hao (by omega)
      obtain ⟨l, x, h1, h2, hx⟩ := HP.out.at_ (i := k) (by rw [HN.out]; exact hlt)
      have hlw := HP.out.lv
      rw [HLV.out, HN.out] at hlw
      have hp := ptr_cell hlw k l h1
      have hm := hx.mapCell
      have HM := Lib.hid hx.map
      have H1 := Lib.hid h1
      have HST : Hid ((retryTo M k).stOf k = x.st) := stOf_at h2
      clear hlw h1 h2 hx
      go_wp2_with (go_at_call 26; refine (mdel_any l.mb x.st _ (by exact HM.out)).mono ?_; rintro e w2 ⟨rfl, hm2, ho2⟩; have HM2 := Lib.hid hm2; have HO2 := Lib.hid ho2; clear hm2 ho2)
      go_roundw
      case rel => exact ⟨k + 1, by omega, by go_num, Lib.hid (by show PAt w2 L ((retryTo M k).setSt k (retrySt ((retryTo M k).stOf k))); rw [HST.out]; exact HP.out.turn H1.out HM2.out HO2.out), Lib.hid (HS.out.trans HO2.out (fun j _ e => e ▸ inMaps_at H1.out))⟩
      case measure => simp [intOf]; omega
    · obtain rfl : k = N := by omega
      go_wp2
      go_end0
      exact ⟨rfl, by have e := HP.out; rw [HLEN.out] at e; exact e, HS.out⟩
theorem retry_nil (w : World) : Calls Tryd.prog 8 #[.pointer none] w fun e w' => e = .returned (.tuple #[]) ∧ w = w' := by
  go_enter Tryd.func8, Tryd.ntmps8
  go_wp2
  refine bodyPost_ret (results_none rfl _ _ _) rfl ?_
  exact ⟨rfl, rfl⟩
end Go.Proofs.YtpogpfabnkgkfaaDoor
