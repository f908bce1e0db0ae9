/- A region in a round over an iterator is walked as a region anywhere. -/
import Derived.Test.YtpogpfabnkgkfaaDooraO
import Derived.Sort.CutIn
namespace Go.Proofs.YtpogpfabnkgkfaaDoor
open Go.RowKit Go.BigFrame Go.Maps Go.Shelf Go.Sort
set_option maxRecDepth 100000

/-! A region in a round over an iterator, walked as a region anywhere. -/
def plainOp (o : Oper) : Bool := match o.op with
  | .defer _ => false
  | _ => true
theorem plain_op {o : Oper} (h : plainOp o = true) (c : Call) : o.op ≠ .defer c := fun e => by
  unfold plainOp at h
  rw [e] at h
  cases h
theorem rows_round {l n : Nat} {P : Program} {row : String} {args : Array Value} {w : World} {R : Value → World → Prop} (h : Rows P row args w R) : RowsIn (Fence.wide.inRound l) n P row args w R := fun c cs _ =>
  let ⟨v, w', r, s⟩ := h c cs
  ⟨v, w', r, stepsIn_wide.2 s⟩
theorem depth_round {l n : Nat} : (Fence.wide.inRound l).depth.isSome = true → 1 ≤ n := fun e => by cases e
theorem upon_round {l n : Nat} {P : Program} {o : Oper} {a : Act} {K K' : Act → World → Prop} {Q : Exit → Act → World → Prop} (hK : ∀ a w, K a w → K' a w) :
    ∀ r, o.upon P a K Q r → o.uponIn (Fence.wide.inRound l) n P a K' Q r
  | .ok (.value _) _, h => hK _ _ h
  | .ok .skip _, h => hK _ _ h
  | .ok (.defer _) _, h => hK _ _ h
  | .ok (.enter f args) w', h => by
    refine ⟨depth_round, CallsIn.mono (CallsIn.inRound l (callsIn_wide.2 h)) fun e w'' he => ?_⟩
    cases e with
    | returned v => exact hK _ _ he
    | panicked c => exact he
    | outgrown => exact he
  | .ok (.row row args) w', h => ⟨depth_round, RowsIn.mono (rows_round h) fun v w'' hv => hK _ _ hv⟩
  | .ok (.round _ _ _ _ _) _, h => h.elim
  | .halt (.panic _) _, h => h
  | .halt .blocked _, h => h.elim
  | .halt .waiting _, h => h.elim
  | .halt (.unsupported _) _, h => h.elim
theorem wp_round {l n : Nat} {P : Program} {o : Oper} {a : Act} {w : World} {K K' : Act → World → Prop} {Q : Exit → Act → World → Prop} (hp : plainOp o = true) (hK : ∀ a w, K a w → K' a w)
    (h : o.wp P a w K Q) : o.wpIn (Fence.wide.inRound l) n P a w K' Q := by
  refine ⟨fun _ _ => trivial, ?_⟩
  rw [show (Fence.wide.inRound l).round = some l from rfl, Oper.semAt_some l _ _ (plain_op hp)]
  exact upon_round hK _ h
theorem wpOps_round {l n : Nat} {P : Program} {ops : Array Oper} {Q : Exit → Act → World → Prop} (hp : ops.all plainOp = true) (hQ : ¬ LetsOut Q) :
    ∀ (is : List Nat) (a : Act) (w : World), wpOps P ops Q is a w → wpOpsIn (Fence.wide.inRound l) n P ops Q is a w := by
  intro is
  induction is with
  | nil => exact fun a w h => h
  | cons i is ih =>
    intro a w h
    simp only [wpOps] at h
    simp only [wpOpsIn]
    cases ho : ops[i]? with
    | none => rw [ho] at h; exact ih a w h
    | some o =>
      rw [ho] at h
      dsimp only at h ⊢
      by_cases hw : Region.wanted o (yielded ops a.tmps) = true
      · rw [if_pos hw] at h ⊢
        rcases h with h | ⟨_, h⟩
        · refine wp_round ?_ ih h
          obtain ⟨hi, rfl⟩ := Array.getElem?_eq_some_iff.1 ho
          exact Array.all_eq_true.1 hp i hi
        · exact absurd h hQ
      · rw [if_neg hw] at h ⊢
        exact ⟨fun _ _ => trivial, ih _ _ h⟩
theorem wpIn_round_list {l n id : Nat} {P : Program} {ops : Array Oper} {Q : Exit → Act → World → Prop} {a : Act} {w : World} (hp : ops.all plainOp = true) (hQ : ¬ LetsOut Q)
    (h : wpList P ops Q ops.toList a w) : (Code.region id ops false).wpIn (Fence.wide.inRound l) n P Q a w :=
  wpIn_region (wpOps_round hp hQ _ a w (by rw [List.range_eq_range', ← Array.length_toList, wpOps_eq_wpList ops.toList 0 (by simp)]; exact h))
theorem wpIn_round_lit {l n id : Nat} {P : Program} {ops : List Oper} {Q : Exit → Act → World → Prop} {a : Act} {w : World} (hp : ops.toArray.all plainOp = true) (hQ : ¬ LetsOut Q)
    (h : wpList P ops.toArray Q ops a w) : (Code.region id ops.toArray false).wpIn (Fence.wide.inRound l) n P Q a w := wpIn_round_list hp hQ h
theorem wpIn_round_any {l n id : Nat} {P : Program} {ops : Array Oper} {Q : Exit → Act → World → Prop} {a : Act} {w : World} (hp : ops.all plainOp = true) (hQ : ¬ LetsOut Q) (hm : P.follows .mixedOrders = true)
    (h : wpAny P .any ops Q ops.size (Array.replicate ops.size false) a { w with drawn := w.drawn + 1 }) : (Code.region id ops true).wpIn (Fence.wide.inRound l) n P Q a w :=
  wpIn_region_draw fun t => by
    simp only [Region.schedule, hm, Bool.true_or, if_true]
    exact wpOps_round hp hQ _ a _ (wpAny_sound ops.size t _ a _ h)
theorem wpIn_round_held {l n id : Nat} {P : Program} {ops : Array Oper} {Q : Exit → Act → World → Prop} {S : World → Prop} {a : Act} {w : World} (hp : ops.all plainOp = true) (hQ : ¬ LetsOut Q) (hm : P.follows .mixedOrders = true) (hS : S w.drew)
    (h : S w.drew → wpAnyH P .any ops Q S ops.size (Array.replicate ops.size false) a w.drew) : (Code.region id ops true).wpIn (Fence.wide.inRound l) n P Q a w :=
  wpIn_round_any hp hQ hm (wpAny_of_held _ _ _ _ (h hS))
end Go.Proofs.YtpogpfabnkgkfaaDoor
