/- A law for regions that draw their order, where a store undoes what a load stood on. -/
import Derived.Test.YtpogpfabnkgkfaaDoorQ
namespace Go.Proofs.YtpogpfabnkgkfaaDoor
open Go.RowKit Go.BigFrame Go.Maps Go.Shelf Go.Sort
set_option maxRecDepth 100000

/-! A region that draws its order, in which some operations ('ex') may undo what the loads stand on (S1), because they wait for those loads. -/
section
variable {P : Program} {ops : Array Oper} {Q : Exit → Act → World → Prop} {md : Region.Mode}
def wpX (P : Program) (md : Region.Mode) (ops : Array Oper) (Q : Exit → Act → World → Prop) (S0 S1 : World → Prop) (ex : Nat → Bool) : Nat → Array Bool → Act → World → Prop
  | 0, L, a, w => Region.ready md ops L = [] ∧ Q .normal a w
  | n + 1, L, a, w => (Region.ready md ops L = [] → Q .normal a w) ∧
      ∀ j ∈ Region.ready md ops L, wpOp P ops Q j (fun a' w' => (S0 w' ∧ (ex j = false → S1 w → S1 w')) ∧ wpX P md ops Q S0 S1 ex n (L.setIfInBounds j true) a' w') a w
variable {S0 S1 : World → Prop} {ex : Nat → Bool}
theorem wpX_any : ∀ (n : Nat) (L : Array Bool) (a : Act) (w : World), wpX P md ops Q S0 S1 ex n L a w → wpAny P md ops Q n L a w
  | 0, _, _, _, h => h
  | n + 1, _, _, _, h => ⟨h.1, fun j hj => wpOp_mono (fun a' w' k => wpX_any n _ a' w' k.2) (h.2 j hj)⟩

def exNot (ex : Nat → Bool) (L : Array Bool) : Prop := ∀ e, ex e = true → L.getD e false = false
def exWaits (md : Region.Mode) (ops : Array Oper) (ex : Nat → Bool) (i : Nat) : Bool :=
  (List.range ops.size).all fun j => !ex j || match ops[j]? with
    | some o => o.after.any fun e => Region.binds md e && (e.on == i || ex e.on)
    | none => false
theorem exWaits_spec {i : Nat} (h : exWaits md ops ex i = true) {j : Nat} {o : Oper} (hj : ops[j]? = some o) (he : ex j = true) : ∃ e ∈ o.after, Region.binds md e = true ∧ (e.on = i ∨ ex e.on = true) := by
  have hlt : j < ops.size := (Array.getElem?_eq_some_iff.1 hj).1
  have h1 := List.all_eq_true.1 h j (List.mem_range.2 hlt)
  rw [he, hj] at h1
  simp only [Bool.not_true, Bool.false_or, Array.any_eq_true', Bool.and_eq_true, Bool.or_eq_true, beq_iff_eq] at h1
  exact h1

/-- What an operation asks of the world: S0, and S1 too, if b. -/
def Asks (S0 S1 : World → Prop) (b : Bool) (w : World) : Prop := S0 w ∧ (b = true → S1 w)

theorem wpX_first {i : Nat} {oi : Oper} {v : Value} {b : Bool} (hi : ops[i]? = some oi) (hsel : ∀ (j : Nat) (o : Oper) cs d, ops[j]? = some o → o.op ≠ .select cs d)
    (hQ : ∀ c a w, Q (.panic c) (a.put oi.dst v) w → Q (.panic c) a w) (hb : b = true → exWaits md ops ex i = true) :
    ∀ (n : Nat) (L : Array Bool) (a : Act) (w : World),
      (∀ j oj, ops[j]? = some oj → j ≠ i → L.getD j true = false → (∀ e ∈ oj.after, Region.binds md e = true → e.on ≠ i) → oi.apart ops oj = true) →
      i ∈ Region.ready md ops L → (b = true → exNot ex L ∧ ex i = false) → YieldsIf P ops (Asks S0 S1 b) oi v a → Asks S0 S1 b w →
      wpX P md ops Q S0 S1 ex n (L.setIfInBounds i true) (a.put oi.dst v) w → wpX P md ops Q S0 S1 ex (n + 1) L a w := by
  intro n
  induction n with
  | zero =>
    intro L a w _ hr hx hy hA H
    refine ⟨fun h => (by rw [h] at hr; cases hr), fun j hj => ?_⟩
    by_cases hji : j = i
    · subst hji; exact hy.wpOp hi hA ⟨⟨hA.1, fun _ h => h⟩, H⟩
    · have := ready_mono hj hji
      rw [H.1] at this
      cases this
  | succ n ih =>
    intro L a w hfree hr hx hy hA H
    refine ⟨fun h => (by rw [h] at hr; cases hr), fun j hj => ?_⟩
    by_cases hji : j = i
    · subst hji; exact hy.wpOp hi hA ⟨⟨hA.1, fun _ h => h⟩, H⟩
    · have hH := H.2 j (ready_mono hj hji)
      obtain ⟨hjun, oj, hoj, hall⟩ := mem_ready.1 hj
      have hiun : L.getD i false = false := by
        have := (mem_ready.1 hr).1
        rcases Nat.lt_or_ge i L.size with h' | h'
        · simp [h'] at this ⊢; exact this
        · simp [Array.getElem?_eq_none h']
      have hnot : ∀ e ∈ oj.after, Region.binds md e = true → e.on ≠ i := fun e he hbd heq => by
        have h2 := hall e he hbd
        rw [heq, hiun] at h2
        cases h2
      have hexj : b = true → ex j = false := fun hbt => by
        cases hej : ex j with
        | false => rfl
        | true =>
          obtain ⟨e, he, hbd, h3⟩ := exWaits_spec (hb hbt) hoj hej
          rcases h3 with h3 | h3
          · exact absurd h3 (hnot e he hbd)
          · have h4 := hall e he hbd
            rw [(hx hbt).1 _ h3] at h4
            cases h4
      have h2 := wpOp_putIf hoj (hfree j oj hoj hji hjun hnot) (fun cs d => hsel i oi cs d hi) (fun cs d => hsel j oj cs d hoj) hQ hy hH
      have hfree' : ∀ k ok, ops[k]? = some ok → k ≠ i → (L.setIfInBounds j true).getD k true = false →
          (∀ e ∈ ok.after, Region.binds md e = true → e.on ≠ i) → oi.apart ops ok = true := fun k ok hk hki hun hno => by
        refine hfree k ok hk hki ?_ hno
        by_cases hjk : j = k
        · subst hjk; exact hjun
        · rw [getD_set_ne true hjk] at hun; exact hun
      refine wpOp_mono (fun a' w' h3 => ?_) h2
      refine ⟨h3.2.1, ih (L.setIfInBounds j true) a' w' hfree' (ready_mono hr (Ne.symm hji)) (fun hbt => ⟨fun e he => ?_, (hx hbt).2⟩) h3.1 ⟨h3.2.1.1, fun hbt => h3.2.1.2 (hexj hbt) (hA.2 hbt)⟩ ?_⟩
      · have hne : j ≠ e := fun h => by rw [h, he] at hexj; exact absurd (hexj hbt) (by decide)
        rw [getD_set_ne false hne]; exact (hx hbt).1 e he
      · rw [Array.setIfInBounds_comm _ _ hji]
        exact h3.2.2

/-- Take number i first. -/
theorem wpX_take {i : Nat} {oi : Oper} {v : Value} (b : Bool) {n : Nat} {L : Array Bool} {a : Act} {w : World} (hi : ops[i]? = some oi)
    (hs : Region.noSelect ops = true) (hf : Region.free md ops L i = true) (hr : (Region.ready md ops L).contains i = true) (hb : (!b || (exWaits md ops ex i && !ex i)) = true)
    (hx : b = true → exNot ex L)
    (hQ : ∀ c a w, Q (.panic c) (a.put oi.dst v) w → Q (.panic c) a w) (hy : YieldsIf P ops (Asks S0 S1 b) oi v a) (hA : Asks S0 S1 b w)
    (h : wpX P md ops Q S0 S1 ex n (L.setIfInBounds i true) (a.put oi.dst v) w) : wpX P md ops Q S0 S1 ex (n + 1) L a w := by
  have hb2 : b = true → exWaits md ops ex i = true ∧ ex i = false := fun e => by rw [e] at hb; simpa using hb
  exact wpX_first hi (Region.noSelect_spec hs) hQ (fun e => (hb2 e).1) n L a w (Region.free_spec hi hf) (by simpa using hr) (fun e => ⟨hx e, (hb2 e).2⟩) hy hA h
/-- Those that may come up. -/
def AllX (P : Program) (md : Region.Mode) (ops : Array Oper) (Q : Exit → Act → World → Prop) (S0 S1 : World → Prop) (ex : Nat → Bool) (n : Nat) (L : Array Bool) (a : Act) (w : World) (rs : List Nat) : Prop :=
  ∀ j ∈ rs, wpOp P ops Q j (fun a' w' => (S0 w' ∧ (ex j = false → S1 w → S1 w')) ∧ wpX P md ops Q S0 S1 ex n (L.setIfInBounds j true) a' w') a w
theorem AllX.nil {n : Nat} {L : Array Bool} {a : Act} {w : World} : AllX P md ops Q S0 S1 ex n L a w [] := fun _ h => by cases h
theorem AllX.cons {n : Nat} {L : Array Bool} {a : Act} {w : World} {j : Nat} {o : Oper} {rs : List Nat} (ho : ops[j]? = some o)
    (h : ∀ K : Act → World → Prop, Shut (∀ a' w', S0 w' → (ex j = false → S1 w → S1 w') → wpX P md ops Q S0 S1 ex n (L.setIfInBounds j true) a' w' → K a' w') → if Region.wanted o (yielded ops a.tmps) = true then Oper.wp P o a w K Q else K (a.put o.dst undef) w)
    (hs : AllX P md ops Q S0 S1 ex n L a w rs) : AllX P md ops Q S0 S1 ex n L a w (j :: rs) := fun k hk => by
  rcases List.mem_cons.1 hk with rfl | hk
  · exact wpOp_step ho (fun K hK => h K (fun a' w' h0 h1 hW => hK a' w' ⟨⟨h0, h1⟩, hW⟩))
  · exact hs k hk
theorem wpX_ready {rs : List Nat} {n : Nat} {L : Array Bool} {a : Act} {w : World} (hr : Region.ready md ops L = rs) (hne : rs ≠ [])
    (h : AllX P md ops Q S0 S1 ex n L a w rs) : wpX P md ops Q S0 S1 ex (n + 1) L a w :=
  ⟨fun h0 => absurd (hr ▸ h0) hne, hr ▸ h⟩
theorem wpX_done {L : Array Bool} {a : Act} {w : World} (hr : Region.ready md ops L = []) (h : Q .normal a w) : ∀ n, wpX P md ops Q S0 S1 ex n L a w
  | 0 => ⟨hr, h⟩
  | _ + 1 => ⟨fun _ => h, by rw [hr]; simp⟩
theorem wpX_begin {id : Nat} {a : Act} {w : World} (S0 S1 : World → Prop) (ex : Nat → Bool) (hm : P.follows .mixedOrders = true)
    (h : wpX P .any ops Q S0 S1 ex ops.size (Array.replicate ops.size false) a w.drew) : (Code.region id ops true).wp P Q a w :=
  wp_region_any hm (wpX_any _ _ _ _ h)
end
end Go.Proofs.YtpogpfabnkgkfaaDoor
