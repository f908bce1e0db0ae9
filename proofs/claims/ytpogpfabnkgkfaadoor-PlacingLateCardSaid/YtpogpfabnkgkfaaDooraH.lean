/- What is digested, padded; the memory of digest.Of. -/
import Derived.Test.YtpogpfabnkgkfaaDooraG
namespace Go.Proofs.YtpogpfabnkgkfaaDoor
open Go.RowKit Go.BigFrame Go.Maps Go.Shelf Go.Sort
set_option maxRecDepth 100000

/-! What is digested: the bytes, padded; what comes out. -/
def padN (n : Nat) : Nat := (119 - n % 64) % 64
def beAt (n j : Nat) : UInt8 := UInt8.ofNat (n / 2 ^ (56 - 8 * j) % 256)
def be64 (n : Nat) : List UInt8 := (List.range 8).map (beAt n)
def padTo (l : List UInt8) (k : Nat) : List UInt8 := l ++ [128] ++ List.replicate k 0
def padS (l : List UInt8) : List UInt8 := padTo l (padN l.length) ++ be64 (l.length * 8)
theorem padTo_len (l : List UInt8) (k : Nat) : (padTo l k).length = l.length + 1 + k := by simp [padTo]; omega
theorem padTo_succ (l : List UInt8) (k : Nat) : padTo l (k + 1) = padTo l k ++ [0] := by simp [padTo, List.replicate_succ']
theorem padS_len (l : List UInt8) : (padS l).length = l.length + 1 + padN l.length + 8 := by simp [padS, padTo_len, be64]
theorem pad_mod (n : Nat) : (n + 1 + padN n + 8) % 64 = 0 := by unfold padN; omega
theorem pad_stop (n k : Nat) (h : k ≤ padN n) : (n + 1 + k) % 64 = 56 ↔ k = padN n := by
  unfold padN at *
  omega
theorem padN_lt (n : Nat) : padN n < 64 := Nat.mod_lt _ (by decide)
theorem be_succ (n j : Nat) : (List.range (j + 1)).map (beAt n) = (List.range j).map (beAt n) ++ [beAt n j] := by rw [List.range_succ, List.map_append]; rfl
theorem byte_of (x : Int) : x % 256 = ((UInt8.ofNat (x % 256).toNat).toNat : Int) := by
  have h : (x % 256).toNat < 256 := by omega
  rw [UInt8.toNat_ofNat']
  omega
theorem be_byte (n j : Nat) : ((n : Int) / 2 ^ (56 - 8 * j)) % 256 = ((beAt n j).toNat : Int) := by
  have e : ((n : Int) / 2 ^ (56 - 8 * j)) % 256 = ((n / 2 ^ (56 - 8 * j) % 256 : Nat) : Int) := by
    rw [Int.natCast_emod, Int.natCast_ediv, Int.natCast_pow]; rfl
  rw [e, beAt, UInt8.toNat_ofNat', Nat.mod_mod]

def runS : Nat → List Int → List UInt8 → List Int
  | 0, h, _ => h
  | m + 1, h, bs => runS m (takeS h bs) (bs.drop 64)
theorem runS_snoc : ∀ (m : Nat) (h : List Int) (bs : List UInt8), runS (m + 1) h bs = takeS (runS m h bs) (bs.drop (64 * m))
  | 0, h, bs => rfl
  | m + 1, h, bs => by
    rw [runS, runS_snoc m (takeS h bs) (bs.drop 64), List.drop_drop]
    show takeS (runS (m + 1) h bs) _ = _
    congr 2
    omega
theorem takeS_len (h : List Int) (bs : List UInt8) : (takeS h bs).length = 8 := sumR_len _ _ _
theorem runS_len : ∀ (m : Nat) (h : List Int) (bs : List UInt8), h.length = 8 → (runS m h bs).length = 8
  | 0, _, _, hh => hh
  | m + 1, h, bs, _ => runS_len m _ _ (takeS_len h bs)
def outAt (h : List Int) (i : Nat) : UInt8 := UInt8.ofNat ((h.getD (i / 4) 0 / 2 ^ (24 - i % 4 * 8)) % 256).toNat
def outA (h : List Int) (i : Nat) : List UInt8 := (List.range 32).map fun j => if j < i then outAt h j else 0
theorem outA_len (h : List Int) (i : Nat) : (outA h i).length = 32 := by simp [outA]
theorem outA_zero (h : List Int) : outA h 0 = List.replicate 32 0 := by
  unfold outA
  rw [List.map_congr_left (g := fun _ => 0) (fun j _ => if_neg (by omega))]
  rfl
theorem outA_set (h : List Int) (i : Nat) (hi : i < 32) : (outA h i).set i (outAt h i) = outA h (i + 1) := by
  apply List.ext_getElem?
  intro j
  by_cases hj : j < 32
  · rw [List.getElem?_set]
    by_cases e : i = j
    · subst e
      simp [outA, hi]
    · rw [if_neg e]
      have e' : (j < i + 1) = (j < i) := by apply propext; omega
      simp [outA, hj, e']
  · rw [List.getElem?_eq_none (by rw [List.length_set, outA_len]; omega), List.getElem?_eq_none (by rw [outA_len]; omega)]
def outS (h : List Int) : List UInt8 := outA h 32
def digS (l : List UInt8) : List UInt8 := outS (runS ((padS l).length / 64) firstV (padS l))
theorem digS_len (l : List UInt8) : (digS l).length = 32 := outA_len _ _
theorem cells_set (l : List UInt8) (j : Nat) (c : UInt8) : (cellsOf l).toArray.setIfInBounds j (.int .u8 (c.toNat : Int)) = (cellsOf (l.set j c)).toArray := by
  unfold cellsOf
  rw [List.setIfInBounds_toArray, List.map_set]
  rfl
theorem zero_cells : zeroId = cellsOf (List.replicate 32 0) := by rfl

/-- Of's memory while the bytes are padded. -/
structure OfAt (w0 : World) (xs : List UInt8) (v : Value) (w : World) : Prop where
  row : w.ownsRow w0.heap.size 5 1 v xs.length (cellsOf xs)
  below : Below w0.heap.size w0 w
  out : w.heap[w0.heap.size]? = some (.cells zeroId.toArray 30 (0, 0))
theorem c1_u8 (wr : World) (x : Int) (t : TypeId) : ∀ j u, [Value.int .u8 x][j]? = some u → (wr.alloc (.cells #[.int .u8 x] t)).cell? ((⟨wr.heap.size, 0, none⟩ : Addr).add j) = some u := by
  intro j u hj
  match j, hj with
  | 0, hj => simp at hj; subst hj; simp [Addr.add]
theorem own_ne {w : World} {base e t size n g : Nat} {v : Value} {xs : List Value} {cs : Array Value} {fr : Nat × Nat} (h : w.ownsRow base e size v n xs) (hg : w.heap[g]? = some (.cells cs t fr)) (hne : e ≠ t) : some g ≠ v.ownBlock := by
  rcases h.2 with ⟨rfl, _⟩ | ⟨g', cap, cur, rfl, _, hh, _⟩
  · simp [Value.ownBlock]
  · intro he
    have e' : g = g' := by simpa [Value.ownBlock] using he
    subst e'
    rw [hg] at hh
    injection hh with hh
    injection hh with _ ht
    exact hne ht.symm
theorem OfAt.add {w0 wr w1 : World} {xs : List UInt8} {v v' : Value} {ob : Obj} (k : OfAt w0 xs v wr) (c : UInt8) (hown : w1.ownsRow w0.heap.size 5 1 v' (xs.length + 1) (cellsOf xs ++ [.int .u8 (c.toNat : Int)])) (hgrow : (wr.alloc ob).grownBy w1 v.ownBlock) : OfAt w0 (xs ++ [c]) v' w1 := by
  have hout := k.out
  have hlt : w0.heap.size < wr.heap.size := (Array.getElem?_eq_some_iff.1 hout).1
  refine ⟨?_, (k.below.alloc k.below.size _).grown hgrow (by have := k.below.size; simp; omega) (fun g e => (k.row.lt g e).1), ?_⟩
  · have e : cellsOf (xs ++ [c]) = cellsOf xs ++ [.int .u8 (c.toNat : Int)] := by simp [cellsOf, u8v]
    rw [e, List.length_append]
    exact hown
  · rw [hgrow.block _ (by simp; omega) (own_ne k.row hout (by decide)), heap_alloc_old _ _ hlt]
    exact hout
structure OfW (w0 : World) (B6 g cap : Nat) (ps : List UInt8) (hs : List Int) (w : World) : Prop where
  row : w.ownsRow w0.heap.size 5 1 (.slice (some ⟨g, 0, none⟩) ps.length cap) ps.length (cellsOf ps)
  below : Below w0.heap.size w0 w
  out : w.heap[w0.heap.size]? = some (.cells zeroId.toArray 30 (0, 0))
  s : w.heap[B6]? = some (.cells (wordsOf hs) 104 (0, 0))
  lt : w0.heap.size < B6
  g0 : GAt w
theorem OfW.step {w0 w w' : World} {B6 g cap : Nat} {ps : List UInt8} {hs : List Int} (k : OfW w0 B6 g cap ps hs w) (hb : Below w.heap.size w w') : OfW w0 B6 g cap ps hs w' :=
  ⟨row_below k.row hb, k.below.trans (hb.mono k.below.size), below_block hb k.out, below_block hb k.s, k.lt, k.g0.below hb⟩
theorem OfW.put {w0 w : World} {B6 g cap : Nat} {ps : List UInt8} {hs : List Int} (k : OfW w0 B6 g cap ps hs w) (hs' : List Int) : OfW w0 B6 g cap ps hs' (w.setRow B6 (wordsOf hs')) := by
  refine ⟨?_, k.below.trans ⟨rfl, rfl, rfl, by simp [World.setRow], fun i hi => setRow_other w B6 i _ (by have := k.lt; omega)⟩, ?_, setRow_heap _ _ _ _ _ _ k.s, k.lt, ?_⟩
  · refine k.row.kept (row := some B6) ⟨rfl, rfl, rfl, by simp [World.setRow], fun i _ hk => setRow_other w B6 i _ (fun e => hk (by rw [e]))⟩ (Or.inr ?_)
    have := own_ne k.row k.s (by decide)
    exact fun e => this e.symm
  · rw [setRow_other _ _ _ _ (by have := k.lt; omega)]; exact k.out
  · obtain ⟨t, fr, hg⟩ := k.g0
    exact ⟨t, fr, by rw [setRow_other _ _ _ _ (by have := k.lt; omega)]; exact hg⟩
theorem OfW.start {w0 w w3 : World} {g cap : Nat} {ps : List UInt8} (k : OfAt w0 ps (.slice (some ⟨g, 0, none⟩) ps.length cap) w) (hG : GAt w0) (hb : Below w.heap.size w w3) (hs : List Int) : OfW w0 w3.heap.size g cap ps hs (w3.alloc (.cells (wordsOf hs) 104)) := by
  have hlt : w0.heap.size < w.heap.size := (Array.getElem?_eq_some_iff.1 k.out).1
  have hb2 := hb.alloc hb.size (.cells (wordsOf hs) 104)
  exact ⟨row_below k.row hb2, k.below.trans (hb2.mono k.below.size), below_block hb2 k.out, heap_alloc_new _ _, by have := hb.size; omega, hG.below (k.below.trans (hb2.mono k.below.size))⟩
theorem OfW.cells {w0 w : World} {B6 g cap : Nat} {ps : List UInt8} {hs : List Int} (k : OfW w0 B6 g cap ps hs w) (d : Nat) : ∀ j u, (cellsOf (ps.drop d))[j]? = some u → w.cell? ⟨g, d + j, none⟩ = some u := fun j u hj => by
  have e := k.row.cells (g := g) rfl (d + j) u (by rw [← hj]; simp [cellsOf, List.getElem?_drop])
  rwa [Addr.add_mid, Nat.zero_add] at e
/-- The last loop: the words as bytes. -/
structure OfO (w0 : World) (B6 B7 : Nat) (hs : List Int) (bs : List UInt8) (w : World) : Prop where
  below : Below w0.heap.size w0 w
  out : w.heap[w0.heap.size]? = some (.cells zeroId.toArray 30 (0, 0))
  s : w.heap[B6]? = some (.cells (wordsOf hs) 104 (0, 0))
  o : w.heap[B7]? = some (.cells (cellsOf bs).toArray 30 (0, 0))
  lt : w0.heap.size < B6 ∧ B6 < B7
theorem OfO.start {w0 w : World} {B6 g cap : Nat} {ps : List UInt8} {hs : List Int} (k : OfW w0 B6 g cap ps hs w) : OfO w0 B6 w.heap.size hs (List.replicate 32 0) (w.alloc (.cells (cellsOf (List.replicate 32 0)).toArray 30)) := by
  have hb := (Below.refl w.heap.size w).alloc (Nat.le_refl _) (.cells (cellsOf (List.replicate 32 0)).toArray 30)
  exact ⟨k.below.trans (hb.mono k.below.size), below_block hb k.out, below_block hb k.s, heap_alloc_new _ _, k.lt, (Array.getElem?_eq_some_iff.1 k.s).1⟩
theorem OfO.set {w0 w : World} {B6 B7 : Nat} {hs : List Int} {bs : List UInt8} (k : OfO w0 B6 B7 hs bs w) (j : Nat) (c : UInt8) : OfO w0 B6 B7 hs (bs.set j c) (w.setCell ⟨B7, j, none⟩ (.int .u8 (c.toNat : Int))) := by
  have hl := k.lt
  refine ⟨k.below.setCell (p := ⟨B7, j, none⟩) (by show w0.heap.size ≤ B7; omega) _, ?_, ?_, ?_, hl⟩
  · rw [Below.heap_setCell _ _ _ _ (by show w0.heap.size ≠ B7; omega)]; exact k.out
  · rw [Below.heap_setCell _ _ _ _ (by show B6 ≠ B7; omega)]; exact k.s
  · rw [heap_setCell_same _ _ _ _ _ _ _ k.o, cells_set]
theorem OfO.drewN {w0 w : World} {B6 B7 : Nat} {hs : List Int} {bs : List UInt8} (k : OfO w0 B6 B7 hs bs w) (m : Nat) : OfO w0 B6 B7 hs bs (w.drewN m) := ⟨bel_drewN k.below m, k.out, k.s, k.o, k.lt⟩
theorem cellsOf_one (l : List UInt8) : ((cellsOf l).toArray).all (·.oneCell') = true := by
  simp only [List.all_toArray, List.all_eq_true]
  intro u hu
  obtain ⟨x, _, rfl⟩ := List.mem_map.1 hu
  rfl
def lenV : Value → Nat
  | .slice _ n _ => n
  | _ => 0
end Go.Proofs.YtpogpfabnkgkfaaDoor
