/- wanted.note, walked. -/
import Derived.Test.YtpogpfabnkgkfaaDoorI
import Derived.Great.BuildSlice
import Derived.Great.Walk
namespace Go.Proofs.YtpogpfabnkgkfaaDoor
open Go.RowKit Go.BigFrame Go.Maps Go.Shelf Go.Sort
set_option maxRecDepth 100000

/-! Structs put together out of many cells. -/
theorem set_many (off : Nat) : ∀ (vs : List Value) (j : Nat) (pre mid post : List Value), pre.length = off + j → mid.length = vs.length →
    (vs.zipIdx j).foldl (fun (cs : Array Value) (x : Value × Nat) => cs.setIfInBounds (off + x.2) x.1) (pre ++ mid ++ post).toArray = (pre ++ vs ++ post).toArray
  | [], j, pre, mid, post, _, h => by
    have : mid = [] := List.eq_nil_of_length_eq_zero (by simpa using h)
    subst this; rfl
  | v :: vs, j, pre, [], post, _, h => by simp at h
  | v :: vs, j, pre, m :: mid, post, hp, h => by
    rw [List.zipIdx_cons, List.foldl_cons]
    have e : ((pre ++ (m :: mid) ++ post).toArray.setIfInBounds (off + j) v) = ((pre ++ [v]) ++ mid ++ post).toArray := by
      rw [List.setIfInBounds_toArray]
      congr 1
      rw [← hp]
      simp
    show List.foldl _ ((pre ++ (m :: mid) ++ post).toArray.setIfInBounds (off + j) v) _ = _
    rw [e, set_many off vs (j + 1) (pre ++ [v]) mid post (by simp; omega) (by simpa using h)]
    simp
theorem fill_step (place : Nat → Option (Nat × Nat)) (i off size : Nat) (v : Value) (rest : List (Nat × Value)) (pre mid post : List Value) (hpl : place i = some (off, size)) (hv : v.cells.toList.length = size) (hp : pre.length = off) (hm : mid.length = size) :
    Instr.fill place (pre ++ mid ++ post).toArray ((i, v) :: rest) = Instr.fill place (pre ++ v.cells.toList ++ post).toArray rest := by
  have hs : v.cells.size = size := by rw [← hv]; simp
  rw [Instr.fill, hpl]
  simp only []
  rw [if_neg (by
    simp only [hs, ne_eq, not_true, decide_false, Bool.false_or, List.size_toArray, List.length_append, hp, hm, decide_eq_true_eq]
    omega)]
  congr 1
  rw [← Array.foldl_toList, Array.toList_zipIdx]
  exact set_many off v.cells.toList 0 pre mid post (by omega) (by omega)

def zeroNote : List Value := .int .i64 0 :: (List.replicate 32 (.int .u8 0) ++ [.int .u64 0, .int .u64 0, .slice none 0 0, .slice none 0 0])
def noteCells (k : Int) (id : List UInt8) (n : Int) (bv : Value) : List Value := .int .i64 k :: (cellsOf id ++ [.int .u64 n, .int .u64 0, bv, .slice none 0 0])
theorem length_noteCells (k : Int) (id : List UInt8) (n : Int) (bv : Value) (h : id.length = 32) : (noteCells k id n bv).length = 37 := by simp [noteCells, h]
def placesNote : List (Nat × Nat) := [(0, 1), (1, 32), (33, 1), (34, 1), (35, 1), (36, 1)]
theorem builtNote (parts : List (Nat × Value)) : Tryd.prog.built 38 parts = Instr.fill (placesNote.toArray[·]?) zeroNote.toArray parts := by kernel_rfl
theorem builtNote2 (k : Int) (id : List UInt8) (h : id.length = 32) : Tryd.prog.built 38 [(0, .int .i64 k), (1, .agg (cellsOf id).toArray)] = some (noteCells k id 0 (.slice none 0 0)).toArray := by
  rw [builtNote]
  have e0 := fill_step (placesNote.toArray[·]?) 0 0 1 (.int .i64 k) [(1, .agg (cellsOf id).toArray)] [] [.int .i64 0] (List.replicate 32 (.int .u8 0) ++ [.int .u64 0, .int .u64 0, .slice none 0 0, .slice none 0 0]) rfl rfl rfl rfl
  have e1 := fill_step (placesNote.toArray[·]?) 1 1 32 (.agg (cellsOf id).toArray) [] [.int .i64 k] (List.replicate 32 (.int .u8 0)) [.int .u64 0, .int .u64 0, .slice none 0 0, .slice none 0 0] rfl (by simp [Value.cells, h]) rfl (by simp)
  refine e0.trans ?_
  refine e1.trans ?_
  rfl

def sentCells (who : Int) (note : List Value) : List Value := .int .i64 who :: note
def placesSent : List (Nat × Nat) := [(0, 1), (1, 37)]
theorem builtSent (parts : List (Nat × Value)) : Tryd.prog.built 40 parts = Instr.fill (placesSent.toArray[·]?) (.int .i64 0 :: zeroNote).toArray parts := by kernel_rfl
theorem builtSent2 (who : Int) (n : List Value) (h : n.length = 37) : Tryd.prog.built 40 [(0, .int .i64 who), (1, .agg n.toArray)] = some (sentCells who n).toArray := by
  rw [builtSent]
  have e0 := fill_step (placesSent.toArray[·]?) 0 0 1 (.int .i64 who) [(1, .agg n.toArray)] [] [.int .i64 0] zeroNote rfl rfl rfl rfl
  have e1 := fill_step (placesSent.toArray[·]?) 1 1 37 (.agg n.toArray) [] [.int .i64 who] zeroNote [] rfl (by simp [Value.cells, h]) rfl (by simp [zeroNote])
  simp only [List.append_nil] at e1
  refine e0.trans ?_
  refine e1.trans ?_
  rfl
theorem isSome_struct {P : Program} {t : TypeId} (h : (match P.underlying t with | some (.struct _) => true | _ => false) = true) : ∃ fs, P.underlying t = some (.struct fs) := by
  split at h
  · rename_i fs e; exact ⟨fs, e⟩
  · cases h
theorem Tryd.undNote : ∃ fs, Tryd.prog.underlying 38 = some (.struct fs) := isSome_struct (by kernel_rfl)
theorem Tryd.sizeNote : (Tryd.prog.info? 38).map (·.size) = some 37 := by kernel_rfl
theorem Tryd.undSent : ∃ fs, Tryd.prog.underlying 40 = some (.struct fs) := isSome_struct (by kernel_rfl)
theorem Tryd.sizeSent : (Tryd.prog.info? 40).map (·.size) = some 38 := by kernel_rfl
theorem oneCell_note (k : Int) (id : List UInt8) (n : Int) : ((noteCells k id n (.slice none 0 0)).toArray).all (·.oneCell') = true := by
  simp only [noteCells, List.all_toArray, List.all_cons, List.all_append, Bool.and_eq_true, List.all_eq_true]
  exact ⟨rfl, oneCell_cellsOf id, rfl, rfl, rfl, rfl, fun _ h => by cases h⟩

theorem setRow_alloc (w : World) (old cs : Array Value) (t : TypeId) (fr : Nat × Nat) : (w.alloc (.cells old t fr)).setRow w.heap.size cs = w.alloc (.cells cs t fr) := by
  show World.mk _ _ _ _ _ = World.mk _ _ _ _ _
  congr 1
  apply Array.ext_getElem?
  intro i
  show (Array.modify (w.heap.push _) w.heap.size _)[i]? = (w.heap.push _)[i]?
  rw [Array.getElem?_modify, Array.getElem?_push, Array.getElem?_push]
  by_cases h : i = w.heap.size
  · subst h; simp
  · rw [if_neg (by omega), if_neg h, if_neg h]
theorem rangeAt_alloc {w : World} {b o : Nat} {cs : List Value} (h : w.rangeAt b o cs) (hb : b < w.heap.size) (x : Obj) : (w.alloc x).rangeAt b o cs := fun j v hj => by
  rw [World.cell?_alloc_past _ _ _ hb]; exact h j v hj
theorem rangeAt_below {w w' : World} {b o : Nat} {cs : List Value} (h : w.rangeAt b o cs) (hb : b < w.heap.size) (hw : Below w.heap.size w w') : w'.rangeAt b o cs := fun j v hj => by
  rw [hw.cell (p := ⟨b, o + j, none⟩) hb]; exact h j v hj

set_option maxHeartbeats 1000000 in
theorem note_any (wb : Nat) (k : Int) (id : List UInt8) (hid : id.length = 32) (w : World) (hr : w.rangeAt wb 0 (cellsOf id)) (hwb : wb < w.heap.size) :
    Calls Tryd.prog 25 #[.pointer (some ⟨wb, 0, none⟩), .int .i64 k] w fun e w' => e = .returned (.agg (noteCells k id 0 (.slice none 0 0)).toArray) ∧ Below w.heap.size w w' := by
  obtain ⟨fs, hfs⟩ := Tryd.undNote
  have HFS := Lib.hid hfs
  have HX : Hid ((Tryd.prog.info? 30).map (·.size) = some (cellsOf id).length) := by show _ = _; rw [Tryd.sizeId]; simp [hid]
  have HBB := Lib.hid (builtNote2 k id hid)
  have HS : Hid ((Tryd.prog.info? 38).map (·.size) = some (noteCells k id 0 (.slice none 0 0)).toArray.size) := by show _ = _; rw [Tryd.sizeNote]; simp [length_noteCells _ _ _ _ hid]
  have HN : Hid (zeroNote.toArray.size = (noteCells k id 0 (.slice none 0 0)).toArray.size) := by show _ = _; simp [length_noteCells _ _ _ _ hid]; rfl
  have HO := Lib.hid (oneCell_note k id 0)
  have HR := Lib.hid hr
  clear hfs hid hr
  generalize (noteCells k id 0 (.slice none 0 0)).toArray = nc at *
  go_enter Tryd.func25, Tryd.ntmps25
  go_wp2_with (first
    | ((with_reducible refine wpList_load_mid rfl 30 _ rfl wb 0 ?_ (cellsOf id) _ ?_ Tryd.undId rfl HX.out ?_); (rfl); (exact rangeAt_alloc HR.out hwb _))
    | ((with_reducible refine wpList_buildTo rfl 38 _ rfl _ rfl nc ?_ ?_); (simp only [List.map_toArray, List.map_cons, List.map_nil]; exact HBB.out))
    | ((with_reducible refine wpList_store_rowTo rfl 38 _ _ rfl rfl w.heap.size nc ?_ ?_ 38 zeroNote.toArray ?_ HS.out HN.out HO.out ?_); (rfl); (rfl); (exact heap_alloc_new _ _); (show wpList _ _ _ _ _ (World.setRow (w.alloc (.cells zeroNote.toArray 38)) w.heap.size nc)); (rw [setRow_alloc])))
  refine bodyPost_ret (v := .agg nc) (results_cell_row rfl _ _ w.heap.size 38 nc (0, 0) _ rfl (heap_alloc_new _ _) HFS.out rfl HS.out) rfl ⟨rfl, (Below.refl _ _).alloc (Nat.le_refl _) _⟩
end Go.Proofs.YtpogpfabnkgkfaaDoor
