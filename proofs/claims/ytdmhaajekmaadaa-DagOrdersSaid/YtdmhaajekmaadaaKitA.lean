/- Blocks of memory read and written many cells at once: plain lemmas on the model's worlds, for any program. No condition. -/
import Derived.WalkKit
import Derived.WalkSpells
import Derived.WalkLawsBesides
import Derived.Deep.MidRow
import Derived.Lib.Hide
namespace Go.Proofs.Ytdmhaajekmaadaa
open Go.RowKit

/-- The n cells of block b from place o on, if they are there. -/
def rowAt (w : World) (b o n : Nat) : Option (Array Value) :=
  match w.heap[b]? with
  | some (.cells c _ _) => if o + n ≤ c.size then some (c.extract o (o + n)) else none
  | _ => none

/-- The same of one object. -/
def rowOf (x : Obj) (o n : Nat) : Option (Array Value) :=
  match x with
  | .cells c _ _ => if o + n ≤ c.size then some (c.extract o (o + n)) else none
  | _ => none

theorem rowAt_some {w : World} {b o n : Nat} {cs : Array Value} (h : rowAt w b o n = some cs) :
    ∃ c t fr, w.heap[b]? = some (.cells c t fr) ∧ o + n ≤ c.size ∧ cs = c.extract o (o + n) := by
  unfold rowAt at h
  split at h
  · rename_i c t fr hb
    split at h
    · rename_i hle
      exact ⟨c, t, fr, hb, hle, by simpa using h.symm⟩
    · cases h
  · cases h

theorem rowAt_of {w : World} {b : Nat} {c : Array Value} {t : TypeId} {fr : Nat × Nat} (h : w.heap[b]? = some (.cells c t fr)) (o n : Nat) (hle : o + n ≤ c.size) :
    rowAt w b o n = some (c.extract o (o + n)) := by
  unfold rowAt; rw [h]; simp [hle]

theorem heap_alloc (w : World) (x : Obj) (b : Nat) : (w.alloc x).heap[b]? = if b = w.heap.size then some x else w.heap[b]? := by
  show (w.heap.push x)[b]? = _
  rw [Array.getElem?_push]

@[go_sem] theorem rowAt_alloc (w : World) (x : Obj) (b o n : Nat) : rowAt (w.alloc x) b o n = if b = w.heap.size then rowOf x o n else rowAt w b o n := by
  unfold rowAt
  rw [heap_alloc]
  by_cases h : b = w.heap.size
  · simp [h, rowOf]; cases x <;> rfl
  · simp [h]

@[go_sem] theorem rowOf_cells (c : Array Value) (t : TypeId) (fr : Nat × Nat) (o n : Nat) : rowOf (.cells c t fr) o n = if o + n ≤ c.size then some (c.extract o (o + n)) else none := rfl

@[go_sem] theorem rowAt_drew (w : World) (b o n : Nat) : rowAt w.drew b o n = rowAt w b o n := rfl
@[go_sem] theorem rowAt_drewN (w : World) (k b o n : Nat) : rowAt (w.drewN k) b o n = rowAt w b o n := rfl
@[go_sem] theorem extract_all (c : Array Value) (n : Nat) (h : c.size ≤ n) : c.extract 0 n = c := by
  apply Array.ext_getElem?; intro i; simp only [Array.getElem?_extract]; split
  · simp
  · rename_i hi; simp at hi; rw [Array.getElem?_eq_none]; omega

/-- Reading, writing, making a row of cells: names behind which the walk doesn't look. -/
def ldRow (T : TypeId) (v : Value) : Sem Value := Instr.loadAt T v
def stRow (T : TypeId) (a v : Value) : Sem Unit := Instr.storeAt T a v
def bdRow (T : TypeId) (parts : Array (Nat × Value)) : Sem Value := Instr.build T parts

/-- What a load answers where the cells aren't there. -/
def badLoad (P : Program) (T : TypeId) (w : World) (b o : Nat) : Result Value := (Instr.loadAt T (.pointer (some ⟨b, o, none⟩))).run P w

/-- A type that is a row of n cells. -/
structure RowType (P : Program) (T : TypeId) (n : Nat) : Prop where
  agg : ∀ w, (isAgg T).run P w = .ok true w
  size : ∀ w, (Go.sizeOf T).run P w = .ok n w

theorem rowAt_range {w : World} {b o n : Nat} {cs : Array Value} (h : rowAt w b o n = some cs) : cs.size = n ∧ w.rangeAt b o cs.toList := by
  obtain ⟨c, t, fr, hb, hle, rfl⟩ := rowAt_some h
  refine ⟨by simp; omega, fun j v hv => ?_⟩
  rw [cell_of_row w b (o + j) c t fr hb]
  simp only [Array.getElem?_toList, Array.getElem?_extract] at hv
  split at hv
  · exact hv
  · cases hv

theorem run_loadAt_row {P : Program} {T : TypeId} {n : Nat} (hT : RowType P T n) (w : World) (b o : Nat) :
    (Instr.loadAt T (.pointer (some ⟨b, o, none⟩))).run P w = (rowAt w b o n).elim (badLoad P T w b o) (fun cs => .ok (.agg cs) w) := by
  cases h : rowAt w b o n with
  | none => rfl
  | some cs =>
    obtain ⟨hs, hr⟩ := rowAt_range h
    have hl : (loadCells ⟨b, o, none⟩ cs.toList.length).run P w = .ok cs.toList.toArray w :=
      run_loadCells_list (P := P) w ⟨b, o, none⟩ cs.toList (fun j v hv => by rw [Addr.add_mid]; exact hr j v hv)
    simp only [Array.length_toList, Array.toArray_toList, hs] at hl
    simp [Instr.loadAt, Instr.sureAddr, loadVar, Sem.run_bind, hT.agg, hT.size, hl]

theorem run_loadVar_at {P : Program} {T : TypeId} {n : Nat} (hT : RowType P T n) {w : World} {b o : Nat} {cs : Array Value} (h : rowAt w b o n = some cs) :
    (loadVar T ⟨b, o, none⟩).run P w = .ok (.agg cs) w := by
  have := run_loadAt_row hT w b o
  rw [h] at this
  simpa [Instr.loadAt, Instr.sureAddr] using this

/-- c with cs laid from place o on. -/
def spl (c : Array Value) (o : Nat) (cs : Array Value) : Array Value := c.extract 0 o ++ cs ++ c.extract (o + cs.size) c.size

theorem spl_full (c cs : Array Value) (h : cs.size = c.size) : spl c 0 cs = cs := by
  unfold spl; rw [h]; simp

theorem size_spl (c : Array Value) (o : Nat) (cs : Array Value) (h : o + cs.size ≤ c.size) : (spl c o cs).size = c.size := by
  unfold spl; simp; omega

theorem getElem?_spl (c : Array Value) (o : Nat) (cs : Array Value) (h : o + cs.size ≤ c.size) (i : Nat) :
    (spl c o cs)[i]? = if o ≤ i ∧ i < o + cs.size then cs[i - o]? else c[i]? := by
  unfold spl
  have hm : min o c.size = o := by omega
  simp only [Array.getElem?_append, Array.size_append, Array.size_extract, Array.getElem?_extract, Nat.min_self, hm, Nat.sub_zero]
  by_cases hi : i < o
  · rw [if_pos (show i < o + cs.size by omega), if_pos hi, if_pos hi, if_neg (show ¬ (o ≤ i ∧ i < o + cs.size) by omega)]; simp
  · by_cases hi2 : i < o + cs.size
    · rw [if_pos hi2, if_neg hi, if_pos ⟨by omega, hi2⟩]
    · rw [if_neg hi2, if_neg (show ¬ (o ≤ i ∧ i < o + cs.size) by omega)]
      by_cases hi3 : i < c.size
      · rw [if_pos (by omega)]
        congr 1; omega
      · rw [if_neg (by omega), Array.getElem?_eq_none (by omega)]

theorem spl_snoc (c : Array Value) (o : Nat) (v : Value) (r : List Value) (h : o + 1 + r.length ≤ c.size) :
    spl (c.setIfInBounds o v) (o + 1) r.toArray = spl c o (v :: r).toArray := by
  apply Array.ext_getElem?
  intro i
  rw [getElem?_spl _ _ _ (by simp; omega), getElem?_spl _ _ _ (by simp; omega)]
  simp only [List.size_toArray, List.length_cons, List.getElem?_toArray, Array.getElem?_setIfInBounds]
  by_cases h1 : i = o
  · subst h1
    rw [if_neg (by omega), if_pos rfl, if_pos (by omega), if_pos ⟨Nat.le_refl _, by omega⟩]; simp
  · by_cases h2 : o + 1 ≤ i ∧ i < o + 1 + r.length
    · rw [if_pos h2, if_pos (by omega)]
      obtain ⟨j, rfl⟩ : ∃ j, i = o + 1 + j := ⟨i - (o + 1), by omega⟩
      rw [show o + 1 + j - (o + 1) = j by omega, show o + 1 + j - o = j + 1 by omega]; simp
    · rw [if_neg h2, if_neg (by omega), if_neg (by omega)]

/-- The world with cs laid into block b from place o on. -/
def splice (w : World) (b o : Nat) (cs : Array Value) : World :=
  { w with heap := w.heap.modify b fun
      | .cells c t fr => .cells (spl c o cs) t fr
      | x => x }

theorem heap_splice (w : World) (b o : Nat) (cs : Array Value) (k : Nat) :
    (splice w b o cs).heap[k]? = if k = b then (w.heap[k]?).map (fun | .cells c t fr => .cells (spl c o cs) t fr | x => x) else w.heap[k]? := by
  unfold splice
  simp only [Array.getElem?_modify]
  by_cases h : k = b
  · simp [h]
  · rw [if_neg (fun e => h e.symm), if_neg h]

@[simp] theorem size_splice (w : World) (b o : Nat) (cs : Array Value) : (splice w b o cs).heap.size = w.heap.size := by simp [splice]

/-- Are n cells there, free to be written? -/
def canPut (w : World) (b o n : Nat) : Bool :=
  match w.heap[b]? with
  | some (.cells c _ (lo, hi)) => decide (o + n ≤ c.size) && decide (lo = hi)
  | _ => false
def canPutO (x : Obj) (o n : Nat) : Bool :=
  match x with
  | .cells c _ (lo, hi) => decide (o + n ≤ c.size) && decide (lo = hi)
  | _ => false

theorem canPut_some {w : World} {b o n : Nat} (h : canPut w b o n = true) : ∃ c t lo, w.heap[b]? = some (.cells c t (lo, lo)) ∧ o + n ≤ c.size := by
  unfold canPut at h
  split at h
  · rename_i c t lo hi hb
    simp at h
    obtain ⟨h1, rfl⟩ := h
    exact ⟨c, t, lo, hb, h1⟩
  · cases h

theorem canPut_of {w : World} {b : Nat} {c : Array Value} {t : TypeId} {lo : Nat} (h : w.heap[b]? = some (.cells c t (lo, lo))) (o n : Nat) (hle : o + n ≤ c.size) : canPut w b o n = true := by
  unfold canPut; rw [h]; simp [hle]

@[go_sem] theorem canPut_alloc (w : World) (x : Obj) (b o n : Nat) : canPut (w.alloc x) b o n = if b = w.heap.size then canPutO x o n else canPut w b o n := by
  unfold canPut
  rw [heap_alloc]
  by_cases h : b = w.heap.size
  · simp [h, canPutO]; cases x <;> rfl
  · simp [h]
@[go_sem] theorem canPutO_cells (c : Array Value) (t : TypeId) (lo hi : Nat) (o n : Nat) : canPutO (.cells c t (lo, hi)) o n = (decide (o + n ≤ c.size) && decide (lo = hi)) := rfl
@[go_sem] theorem canPut_drew (w : World) (b o n : Nat) : canPut w.drew b o n = canPut w b o n := rfl
@[go_sem] theorem canPut_drewN (w : World) (k b o n : Nat) : canPut (w.drewN k) b o n = canPut w b o n := rfl

theorem setCell_eq (w : World) (b o : Nat) (v : Value) : w.setCell ⟨b, o, none⟩ v = { w with heap := w.heap.modify b fun
      | .cells c t fr => .cells (c.setIfInBounds o v) t fr
      | x => x } := by
  unfold World.setCell
  congr 2

theorem splice_setCells (b : Nat) : ∀ (vs : List Value) (o : Nat) (w : World) (c : Array Value) (t : TypeId) (fr : Nat × Nat), w.heap[b]? = some (.cells c t fr) → o + vs.length ≤ c.size →
    w.setCells b o vs = splice w b o vs.toArray
  | [], o, w, c, t, fr, hb, hle => by
    unfold World.setCells splice
    cases w with
    | mk heap tape drawn os output =>
      simp only [World.mk.injEq, and_true]
      apply Array.ext_getElem?
      intro k
      simp only [Array.getElem?_modify]
      split
      · rename_i h
        subst h
        simp only at hb
        rw [hb]
        simp at hle
        simp [spl, hle]
      · rfl
  | v :: r, o, w, c, t, fr, hb, hle => by
    have hb1 : (w.setCell ⟨b, o, none⟩ v).heap[b]? = some (.cells (c.setIfInBounds o v) t fr) := by
      rw [setCell_eq]; simp only [Array.getElem?_modify, if_pos rfl, hb]; rfl
    simp at hle
    rw [World.setCells, splice_setCells b r (o + 1) _ _ t fr hb1 (by simp; omega), setCell_eq]
    unfold splice
    cases w with
    | mk heap tape drawn os output =>
      simp only [World.mk.injEq, and_true]
      apply Array.ext_getElem?
      intro k
      simp only [Array.getElem?_modify]
      by_cases h : b = k
      · subst h
        simp only at hb
        simp only [if_true, hb, Option.map_some]
        rw [spl_snoc c o v r (by omega)]
      · simp [h]

/-- Is each a value of one cell? -/
def allOne (cs : Array Value) : Bool := cs.all (·.oneCell')
theorem allOne_mem {cs : Array Value} (h : ∀ v ∈ cs, v.oneCell' = true) : allOne cs = true := Array.all_eq_true_iff_forall_mem.2 h
theorem mem_allOne {cs : Array Value} (h : allOne cs = true) : ∀ v ∈ cs, v.oneCell' = true := Array.all_eq_true_iff_forall_mem.1 h
theorem allOne_append {a b : Array Value} (ha : allOne a = true) (hb : allOne b = true) : allOne (a ++ b) = true :=
  allOne_mem fun v hv => by
    rcases Array.mem_append.1 hv with h | h
    · exact mem_allOne ha v h
    · exact mem_allOne hb v h
@[go_sem] theorem allOne_lit (l : List Value) : allOne l.toArray = l.all (·.oneCell') := by simp [allOne]

def badStore (P : Program) (T : TypeId) (w : World) (b o : Nat) (cs : Array Value) : Result Unit := (Instr.storeAt T (.pointer (some ⟨b, o, none⟩)) (.agg cs)).run P w

theorem run_storeAt_row {P : Program} {T : TypeId} {n : Nat} (hT : RowType P T n) (w : World) (b o : Nat) (cs : Array Value) :
    (Instr.storeAt T (.pointer (some ⟨b, o, none⟩)) (.agg cs)).run P w =
      if cs.size = n ∧ allOne cs = true ∧ canPut w b o n = true then .ok () (splice w b o cs) else badStore P T w b o cs := by
  split
  · rename_i h
    obtain ⟨h1, h2, h3⟩ := h
    obtain ⟨c, t, lo, hb, hle⟩ := canPut_some h3
    have ht : ∀ j, j < cs.toList.length → (w.cell? ⟨b, o + j, none⟩).isSome = true := fun j hj => by
      rw [cell_of_row w b (o + j) c t _ hb, Array.getElem?_eq_getElem (by simp at hj; omega)]; rfl
    have hf : ∀ j, j < cs.toList.length → w.frozen? ⟨b, o + j, none⟩ = false := fun j hj => by
      simp [World.frozen?, hb]
    have := run_storeCells_cells (P := P) b o cs.toList 0 w (fun j hj => by simpa using ht j hj) (fun j hj => by simpa using hf j hj)
      (fun v hv => (Array.all_eq_true_iff_forall_mem.1 h2) v (by simpa using hv))
    simp only [Nat.add_zero] at this
    rw [splice_setCells b cs.toList o w c t _ hb (by simp; omega)] at this
    simp [Instr.storeAt, Instr.sureAddr, storeVar, hT.size, Value.cells, h1, this]
  · rfl

@[go_sem] theorem splice_alloc (w : World) (c : Array Value) (t : TypeId) (fr : Nat × Nat) (b o : Nat) (cs : Array Value) (h : b = w.heap.size) :
    splice (w.alloc (.cells c t fr)) b o cs = w.alloc (.cells (spl c o cs) t fr) := by
  subst h
  unfold splice World.alloc
  congr 1
  apply Array.ext_getElem?
  intro k
  simp only [Array.getElem?_modify, Array.getElem?_push]
  by_cases hk : k = w.heap.size
  · subst hk; simp
  · simp [hk, Ne.symm hk]
@[go_sem] theorem splice_alloc_past (w : World) (x : Obj) (b o : Nat) (cs : Array Value) (h : b ≠ w.heap.size) :
    splice (w.alloc x) b o cs = (splice w b o cs).alloc x := by
  unfold splice World.alloc
  congr 1
  apply Array.ext_getElem?
  intro k
  simp only [Array.getElem?_modify, Array.getElem?_push, Array.size_modify]
  by_cases hk : k = w.heap.size
  · subst hk; simp [h]
  · simp [hk]
@[go_sem] theorem splice_drew (w : World) (b o : Nat) (cs : Array Value) : splice w.drew b o cs = (splice w b o cs).drew := rfl
@[go_sem] theorem splice_drewN (w : World) (n b o : Nat) (cs : Array Value) : splice (w.drewN n) b o cs = (splice w b o cs).drewN n := rfl

@[go_sem] theorem rowAt_splice_other (w : World) (b o : Nat) (cs : Array Value) (k p n : Nat) (h : k ≠ b) : rowAt (splice w b o cs) k p n = rowAt w k p n := by
  unfold rowAt; rw [heap_splice, if_neg h]
@[go_sem] theorem cell_splice_other (w : World) (b o : Nat) (cs : Array Value) (k p : Nat) (h : k ≠ b) : (splice w b o cs).cell? ⟨k, p, none⟩ = w.cell? ⟨k, p, none⟩ := by
  unfold World.cell?; simp only; rw [heap_splice, if_neg h]
theorem rowAt_splice_full {w : World} {b : Nat} {c : Array Value} {t : TypeId} {fr : Nat × Nat} {cs : Array Value} {n : Nat} (h : w.heap[b]? = some (.cells c t fr)) (h1 : c.size = n) (h2 : cs.size = n) : rowAt (splice w b 0 cs) b 0 n = some cs := by
  rw [rowAt_of (c := cs) (t := t) (fr := fr) _ 0 n (by omega)]
  · rw [Nat.zero_add, extract_all _ _ (by omega)]
  · rw [heap_splice, if_pos rfl, h]; show some (Obj.cells (spl c 0 cs) t fr) = _; rw [spl_full c cs (by omega)]
theorem below_splice {B : Nat} {a w : World} (h : Below B a w) (b o : Nat) (cs : Array Value) (hb : B ≤ b) : Below B a (splice w b o cs) :=
  h.trans ⟨rfl, rfl, rfl, by simp, fun k hk => by rw [heap_splice, if_neg (by omega)]⟩
theorem below_drewN {B : Nat} {a w : World} (h : Below B a w) (n : Nat) : Below B a (w.drewN n) := ⟨h.os, h.tape, h.output, h.size, h.block⟩

theorem rowAt_setCell_other (w : World) (b o : Nat) (v : Value) (k p n : Nat) (h : k ≠ b) : rowAt (w.setCell ⟨b, o, none⟩ v) k p n = rowAt w k p n := by
  unfold rowAt; rw [setCell_eq]; simp only [Array.getElem?_modify]; rw [if_neg (fun e => h e.symm)]

theorem below_heap {B : Nat} {w w' : World} (h : Below B w w') {b : Nat} (hb : b < B) : w'.heap[b]? = w.heap[b]? := h.block b hb
theorem below_rowAt {B : Nat} {w w' : World} (h : Below B w w') {b : Nat} (hb : b < B) (o n : Nat) : rowAt w' b o n = rowAt w b o n := by
  unfold rowAt; rw [h.block b hb]

theorem below_canPut {B : Nat} {w w' : World} (h : Below B w w') {b : Nat} (hb : b < B) (o n : Nat) : canPut w' b o n = canPut w b o n := by
  unfold canPut; rw [h.block b hb]
theorem results_row_tmp {P : Program} {fn : Func} {p q : Tmp} {ty : TypeId} (h : fn.results = #[.cell p ty, .tmp q]) (tmps : Array Value) (w : World) {n g : Nat} {cs : Array Value} (hT : RowType P ty n)
    (hp : tmps.getD p undef = .pointer (some ⟨g, 0, none⟩)) (hr : rowAt w g 0 n = some cs) :
    (results fn tmps).run P w = .ok (.tuple #[.agg cs, tmps.getD q undef]) w := by
  have hp' : tmps[p]?.getD undef = .pointer (some ⟨g, 0, none⟩) := by simpa using hp
  simp [results, h, hp', asAddr, run_loadVar_at hT hr]
theorem results_row {P : Program} {fn : Func} {p : Tmp} {ty : TypeId} (h : fn.results = #[.cell p ty]) (tmps : Array Value) (w : World) {n g : Nat} {cs : Array Value} (hT : RowType P ty n)
    (hp : tmps.getD p undef = .pointer (some ⟨g, 0, none⟩)) (hr : rowAt w g 0 n = some cs) :
    (results fn tmps).run P w = .ok (.agg cs) w := by
  have hp' : tmps[p]?.getD undef = .pointer (some ⟨g, 0, none⟩) := by simpa using hp
  simp [results, h, hp', asAddr, run_loadVar_at hT hr]

/-- Cells laid one by one into a row. -/
theorem foldl_spl : ∀ (xs : List Value) (off j : Nat) (cells : Array Value), off + j + xs.length ≤ cells.size →
    (xs.zipIdx j).foldl (fun cs (x : Value × Nat) => cs.setIfInBounds (off + x.2) x.1) cells = spl cells (off + j) xs.toArray
  | [], off, j, cells, h => by
    simp at h
    simp [spl, h]
  | x :: r, off, j, cells, h => by
    simp at h
    rw [List.zipIdx_cons, List.foldl_cons, foldl_spl r off (j + 1) _ (by simp; omega)]
    exact spl_snoc cells (off + j) x r (by omega)

theorem fill_cons (place : Nat → Option (Nat × Nat)) (cells : Array Value) (i : Nat) (v : Value) (rest : List (Nat × Value)) (off size : Nat) (hp : place i = some (off, size)) (hs : v.cells.size = size) (hle : off + size ≤ cells.size) :
    Instr.fill place cells ((i, v) :: rest) = Instr.fill place (spl cells off v.cells) rest := by
  rw [Instr.fill, hp]
  simp only
  rw [if_neg (by simp [hs]; omega)]
  congr 1
  have := foldl_spl v.cells.toList off 0 cells (by simp; omega)
  simp only [Nat.add_zero, Array.toArray_toList] at this
  rw [← this, ← Array.foldl_toList, Array.toList_zipIdx]

end Go.Proofs.Ytdmhaajekmaadaa
