/- A map of states in memory, and what a call leaves as it was. -/
import Derived.Test.YtpogpfabnkgkfaaDoorC
import Derived.Test.YtpogpfabnkgkfaaDoorShelf
import Derived.Maps.OwnSet
import Derived.Lib.SlKeysI
namespace Go.Proofs.YtpogpfabnkgkfaaDoor
open Go.RowKit Go.BigFrame Go.Maps

/-! What a call may turn: the blocks of F. -/
structure Only (F : Nat → Prop) (w w' : World) : Prop where
  os : w'.os = w.os
  tape : w'.tape = w.tape
  output : w'.output = w.output
  size : w.heap.size ≤ w'.heap.size
  block : ∀ k, k < w.heap.size → ¬ F k → w'.heap[k]? = w.heap[k]?
theorem Only.refl (F : Nat → Prop) (w : World) : Only F w w := ⟨rfl, rfl, rfl, Nat.le_refl _, fun _ _ _ => rfl⟩
theorem Only.of_below {F : Nat → Prop} {w w' : World} (h : Below w.heap.size w w') : Only F w w' := ⟨h.os, h.tape, h.output, h.size, fun k hk _ => h.block k hk⟩
theorem Only.trans {F G : Nat → Prop} {a b c : World} (h : Only F a b) (k : Only G b c) (hG : ∀ i, i < a.heap.size → G i → F i) : Only F a c :=
  ⟨k.os.trans h.os, k.tape.trans h.tape, k.output.trans h.output, Nat.le_trans h.size k.size, fun i hi hf => (k.block i (Nat.lt_of_lt_of_le hi h.size) (fun hg => hf (hG i hi hg))).trans (h.block i hi hf)⟩
theorem Only.trans_below {F : Nat → Prop} {a b c : World} (h : Only F a b) (k : Below b.heap.size b c) : Only F a c := h.trans (Only.of_below (F := fun _ => False) k) (fun _ _ h => h.elim)
theorem Only.mono {F G : Nat → Prop} {a b : World} (h : Only F a b) (hG : ∀ i, i < a.heap.size → F i → G i) : Only G a b := ⟨h.os, h.tape, h.output, h.size, fun k hk hg => h.block k hk (fun hf => hg (hG k hk hf))⟩
theorem Only.of_grown {F : Nat → Prop} {w w' : World} {r : Option Nat} (h : w.grownBy w' r) (hr : ∀ k, r = some k → F k) : Only F w w' := ⟨h.os, h.tape, h.output, h.size, fun k hk hf => h.block k hk (fun e => hf (hr k e.symm))⟩
theorem Only.alloc {F : Nat → Prop} {a b : World} (h : Only F a b) (o : Obj) : Only F a (b.alloc o) := h.trans_below ((Below.refl _ _).alloc (Nat.le_refl _) o)
theorem Only.drew {F : Nat → Prop} {a b : World} (h : Only F a b) : Only F a b.drew := ⟨h.os, h.tape, h.output, h.size, h.block⟩
theorem Only.drewN {F : Nat → Prop} {a b : World} (h : Only F a b) (n : Nat) : Only F a (b.drewN n) := ⟨h.os, h.tape, h.output, h.size, h.block⟩
theorem Only.below {F : Nat → Prop} {a b : World} (h : Only F a b) (hF : ∀ i, i < a.heap.size → ¬ F i) : Below a.heap.size a b := ⟨h.os, h.tape, h.output, h.size, fun k hk => h.block k hk (hF k hk)⟩
theorem Only.grown {a b : World} {m : Nat} (h : Only (fun i => i = m) a b) : a.grownBy b (some m) := ⟨h.os, h.tape, h.output, h.size, fun k hk hne => h.block k hk (fun e => hne (by rw [e]))⟩

/-! The map of where partners stand. -/
def stV (x : Int × Int) : Value := .agg #[.int .i64 x.1, .int .u64 x.2]
def stD (x : Int × Int) : DataW Unit := .agg [.lit (.int .i64 x.1), .lit (.int .u64 x.2)]
def stR : Value → Option (DataW Unit × List MemPlace)
  | .agg cs => match cs.toList with
    | [.int .i64 h, .int .u64 s] => some (.agg [.lit (.int .i64 h), .lit (.int .u64 s)], [])
    | _ => none
  | _ => none
theorem stR_mk (x : Int × Int) : stR (stV x) = some (stD x, []) := rfl
theorem stR_inv {v : Value} {x : Int × Int} {ps : List MemPlace} (h : stR v = some (stD x, ps)) : v = stV x := by
  unfold stR at h
  split at h
  · rename_i cs
    split at h
    · rename_i a b e
      simp only [Option.some.injEq, Prod.mk.injEq, stD, DataW.agg.injEq, List.cons.injEq, DataW.lit.injEq, Lit.int.injEq, true_and, and_true] at h
      obtain ⟨⟨h1, h2⟩, _⟩ := h
      have : cs = #[.int .i64 a, .int .u64 b] := by rw [← Array.toArray_toList (xs := cs), e]
      rw [this, h1, h2]; rfl
    · cases h
  · cases h

structure MapD (D : DataW Unit) (st : Int → Int × Int) : Prop where
  ismap : IsMap D
  at_ : ∀ k, D.atKey (.int .i64 k) (stD (0, 0)) = stD (st k)
  has : ∀ k, Maps.has D (.int .i64 k) = decide ((st k).1 ≠ 0)
  dom : ∀ k, (st k).1 ≠ 0 → 0 ≤ k ∧ k < 64
  since : ∀ k, 0 ≤ (st k).2 ∧ (st k).2 ≤ 18446744073709551615

def upd (st : Int → Int × Int) (k : Int) (v : Int × Int) : Int → Int × Int := fun i => if i = k then v else st i

theorem MapD.put {D : DataW Unit} {st : Int → Int × Int} (h : MapD D st) {k : Int} (hk : 0 ≤ k ∧ k < 64) {v : Int × Int} (hv : v.1 ≠ 0) (hs : 0 ≤ v.2 ∧ v.2 ≤ 18446744073709551615) : MapD (D.put (.int .i64 k) (stD v)) (upd st k v) := by
  refine ⟨h.ismap.put _ _, fun i => ?_, fun i => ?_, fun i => ?_, fun i => ?_⟩
  · by_cases e : i = k
    · subst e; rw [atKey_put_same h.ismap (show WideAt.IsKeyLit (.int .i64 i) from trivial)]; simp [upd]
    · rw [atKey_put_other (by intro h; injection h with _ h; exact e h), h.at_]; simp [upd, e]
  · by_cases e : i = k
    · subst e; rw [has_put_same h.ismap (show WideAt.IsKeyLit (.int .i64 i) from trivial)]; simp [upd, hv]
    · rw [has_put_other (by intro h; injection h with _ h; exact e h), h.has]; simp [upd, e]
  · by_cases e : i = k
    · subst e; exact fun _ => hk
    · simp only [upd, if_neg e]; exact h.dom i
  · by_cases e : i = k
    · simp only [upd, if_pos e]; exact hs
    · simp only [upd, if_neg e]; exact h.since i
theorem MapD.del {D : DataW Unit} {st : Int → Int × Int} (h : MapD D st) (k : Int) : MapD (D.del (.int .i64 k)) (upd st k (0, 0)) := by
  refine ⟨h.ismap.del _, fun i => ?_, fun i => ?_, fun i => ?_, fun i => ?_⟩
  · by_cases e : i = k
    · subst e; rw [atKey_del_same]; simp [upd]
    · rw [atKey_del_other (by intro h; injection h with _ h; exact e h), h.at_]; simp [upd, e]
  · by_cases e : i = k
    · subst e; rw [has_del_same]; simp [upd]
    · rw [has_del_other (by intro h; injection h with _ h; exact e h), h.has]; simp [upd, e]
  · by_cases e : i = k
    · simp [upd, e]
    · simp only [upd, if_neg e]; exact h.dom i
  · by_cases e : i = k
    · simp [upd, e]
    · simp only [upd, if_neg e]; exact h.since i
theorem MapD.empty : MapD (.map []) (fun _ => (0, 0)) :=
  ⟨isMap_empty, fun _ => rfl, fun _ => by simp [Maps.has], fun _ h => absurd rfl h, fun _ => by simp⟩

def nodes : List Int := (List.range 64).map (fun n : Nat => (n : Int))
theorem mem_nodes {k : Int} : k ∈ nodes ↔ 0 ≤ k ∧ k < 64 := by
  unfold nodes
  rw [List.mem_map]
  constructor
  · rintro ⟨n, hn, rfl⟩; have := List.mem_range.1 hn; omega
  · rintro ⟨h0, h1⟩; exact ⟨k.toNat, List.mem_range.2 (by omega), by omega⟩
theorem nodes_sorted : nodes.Pairwise (· < ·) := by
  unfold nodes
  rw [List.pairwise_map]
  exact List.pairwise_lt_range.imp (fun h => by omega)
theorem nodes_nodup : nodes.Nodup := nodes_sorted.imp (fun h => by omega)
def keysSt (st : Int → Int × Int) : List Int := nodes.filter (fun k => decide ((st k).1 ≠ 0))
theorem keysSt_sorted (st : Int → Int × Int) : (keysSt st).Pairwise (· < ·) := nodes_sorted.sublist List.filter_sublist
theorem keysSt_nodup (st : Int → Int × Int) : (keysSt st).Nodup := nodes_nodup.sublist List.filter_sublist
theorem keysSt_length (st : Int → Int × Int) : (keysSt st).length ≤ 64 := by
  have h := List.length_filter_le (fun k => decide ((st k).1 ≠ 0)) nodes
  have e : nodes.length = 64 := by simp [nodes]
  unfold keysSt
  omega

theorem law3 : Keyed Tryd.prog 3 := int_keyed Tryd.underlying3
theorem zeroSt (w : World) : (zeroValue 61).run Tryd.prog w = .ok (stV (0, 0)) w := by kernel_rfl

def MapSt (w : World) (mb : Nat) (st : Int → Int × Int) : Prop := ∃ D, w.ownsMap Tryd.prog 3 stR mb 64 D ∧ MapD D st

theorem keys_perm {w : World} {mb n : Nat} {D : DataW Unit} {st : Int → Int × Int} (hown : w.ownsMap Tryd.prog 3 stR mb n D) (h : MapD D st) : (keysSt st).Perm (intKeys D) := by
  obtain ⟨es, hD, hpw, _⟩ := hown.entries law3
  obtain ⟨es', hD', hko⟩ := hown.keysOf
  obtain rfl : es = es' := by rw [hD] at hD'; simpa using hD'
  subst hD
  refine perm_intKeys hpw (fun p hp => by obtain ⟨v, hv⟩ := hko p hp; obtain ⟨x, _, hx, _⟩ := Maps.keyOf_i64 Tryd.underlying3 hv; exact ⟨x, hx⟩) (keysSt_nodup st) (fun x => ?_)
  rw [h.has x]
  unfold keysSt
  rw [List.mem_filter, mem_nodes]
  simp only [decide_eq_true_eq]
  exact ⟨fun h => h.2, fun hx => ⟨h.dom x hx, hx⟩⟩
theorem size_le {w : World} {mb n : Nat} {D : DataW Unit} {st : Int → Int × Int} (hown : w.ownsMap Tryd.prog 3 stR mb n D) (h : MapD D st) : Maps.size D ≤ 64 := by
  have e := (keys_perm hown h).length_eq
  have := keysSt_length st
  obtain ⟨es, rfl⟩ := h.ismap
  have : (intKeys (DataW.map es)).length = es.length := by simp [intKeys]
  simp only [Maps.size]
  omega
theorem ownsMap_tight {w : World} {mb n : Nat} {D : DataW Unit} {st : Int → Int × Int} (hown : w.ownsMap Tryd.prog 3 stR mb n D) (h : MapD D st) : w.ownsMap Tryd.prog 3 stR mb 64 D := by
  have hs := size_le hown h
  obtain ⟨es, clock, hb, F, hn, hD⟩ := hown
  refine ⟨es, clock, hb, F, ?_, hD⟩
  rw [hD] at hs
  simpa [Maps.size, length_sorted] using hs
theorem MapSt.kept {w w' : World} {mb : Nat} {st : Int → Int × Int} {F : Nat → Prop} (h : MapSt w mb st) (hg : Only F w w') (hF : ¬ F mb) : MapSt w' mb st := by
  obtain ⟨D, hown, hD⟩ := h
  have hlt := hown.lt
  obtain ⟨es, clock, hb, Ft, hn, e⟩ := hown
  exact ⟨D, ⟨es, clock, (hg.block mb hlt hF).trans hb, Ft, hn, e⟩, hD⟩
theorem MapSt.lt {w : World} {mb : Nat} {st : Int → Int × Int} (h : MapSt w mb st) : mb < w.heap.size := by obtain ⟨D, hown, _⟩ := h; exact hown.lt
theorem MapSt.since {w : World} {mb : Nat} {st : Int → Int × Int} (h : MapSt w mb st) (k : Int) : 0 ≤ (st k).2 ∧ (st k).2 ≤ 18446744073709551615 := by obtain ⟨D, _, hD⟩ := h; exact hD.since k
theorem MapSt.dom {w : World} {mb : Nat} {st : Int → Int × Int} (h : MapSt w mb st) (k : Int) : (st k).1 ≠ 0 → 0 ≤ k ∧ k < 64 := by obtain ⟨D, _, hD⟩ := h; exact hD.dom k
theorem wf64 {k : Int} (h : -9223372036854775808 ≤ k ∧ k ≤ 9223372036854775807) : (Lit.int .i64 k).wf = true := by
  simp only [Lit.wf, Bool.and_eq_true, decide_eq_true_eq]
  exact h
theorem MapSt.look {w : World} {mb : Nat} {st : Int → Int × Int} (h : MapSt w mb st) {k : Int} (hk : -9223372036854775808 ≤ k ∧ k ≤ 9223372036854775807) :
    (Instr.lookup 56 (.map (some mb)) (.int .i64 k) false).run Tryd.prog w = .ok (stV (st k)) w := by
  obtain ⟨D, hown, hD⟩ := h
  obtain ⟨v, ps, hrun, hv⟩ := hown.lookup law3 Tryd.underlying56 (zeroSt w) (stR_mk (0, 0)) (keyOf_int_mk Tryd.underlying3 (wf64 hk))
  rw [hD.at_ k] at hv
  rw [hrun, stR_inv hv]
theorem MapSt.store {w : World} {mb : Nat} {st : Int → Int × Int} (h : MapSt w mb st) {k : Int} (hk : 0 ≤ k ∧ k < 64) {v : Int × Int} (hv : v.1 ≠ 0) (hs : 0 ≤ v.2 ∧ v.2 ≤ 18446744073709551615) :
    ∃ w', (Instr.mapUpdate 56 (.map (some mb)) (.int .i64 k) (stV v)).run Tryd.prog w = .ok () w' ∧ MapSt w' mb (upd st k v) ∧ Only (fun i => i = mb) w w' := by
  obtain ⟨D, hown, hD⟩ := h
  obtain ⟨w', hrun, h1, h2⟩ := hown.update law3 Tryd.underlying56 (by unfold maxLen; omega) (keyOf_int_mk (a := k) Tryd.underlying3 (wf64 (by omega))) (stR_mk v)
  have hD' := hD.put hk hv hs
  have h3 := ownsMap_tight h1 hD'
  have h4 : Only (fun i => i = mb) w w' := Only.of_grown h2 (fun k e => (Option.some.inj e).symm)
  exact ⟨w', hrun, ⟨_, h3, hD'⟩, h4⟩
theorem MapSt.made (w : World) : MapSt (w.alloc (.map #[] 0)) w.heap.size (fun _ => (0, 0)) :=
  ⟨_, (World.ownsMap_made w Tryd.prog 3 stR).mono (Nat.zero_le _), MapD.empty⟩

end Go.Proofs.YtpogpfabnkgkfaaDoor
