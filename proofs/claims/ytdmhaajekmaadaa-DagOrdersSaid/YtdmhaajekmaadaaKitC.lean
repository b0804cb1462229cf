/- Maps of the model, with keys of any type that has a plain encoding: looked up, written, deleted from, gone over. No condition. -/
import Derived.Test.YtdmhaajekmaadaaKitB
import Derived.Maps.RangeWalk
namespace Go.Proofs.Ytdmhaajekmaadaa
open Go.RowKit

variable {α : Type}

/-- Where a key stands, and what it holds. -/
def at? [DecidableEq α] (k : α) : List (α × Value) → Nat → Option (Nat × Value)
  | [], _ => none
  | p :: r, i => if k = p.1 then some (i, p.2) else at? k r (i + 1)
/-- What a key holds. -/
def get? [DecidableEq α] (k : α) : List (α × Value) → Option Value
  | [] => none
  | p :: r => if k = p.1 then some p.2 else get? k r
/-- Written. -/
def putK [DecidableEq α] (k : α) (v : Value) : List (α × Value) → List (α × Value)
  | [] => [(k, v)]
  | p :: r => if k = p.1 then (k, v) :: r else p :: putK k v r
/-- Deleted. -/
def delK [DecidableEq α] (k : α) : List (α × Value) → List (α × Value)
  | [] => []
  | p :: r => if k = p.1 then r else p :: delK k r

theorem at?_get? [DecidableEq α] (k : α) : ∀ (l : List (α × Value)) (i : Nat), (at? k l i).map (·.2) = get? k l
  | [], _ => rfl
  | p :: r, i => by unfold at? get?; split <;> simp [at?_get? k r]

/-- The entries are those of the list. -/
def Ents (enc : α → Value) (es : List MapEntry) (l : List (α × Value)) : Prop := es.map (fun e => (e.key, e.val)) = l.map (fun p => (enc p.1, p.2))

/-- A type of keys, and how they are written as values. -/
structure KeyE [DecidableEq α] (P : Program) (T : TypeId) (enc : α → Value) : Prop where
  inj : ∀ a b, enc a = enc b → a = b
  check : ∀ (w : World) (e : Bool) (a : α), (Instr.checkKey e 10000 T (enc a)).run P w = .ok () w
  find : ∀ (w : World) (a : α) (es : List MapEntry) (l : List (α × Value)), Ents enc es l → (Instr.findKey T (enc a) es).run P w = .ok (at? a l 0) w
  same : ∀ a, Instr.sameBits 10000 (enc a) (enc a) = true

/-- A map's object. -/
structure MapIs (enc : α → Value) (es : Array MapEntry) (clock : Nat) (l : List (α × Value)) : Prop where
  ents : Ents enc es.toList l
  born : ∀ e ∈ es.toList, e.born < clock
  apart : es.toList.Pairwise fun x y => x.born ≠ y.born

def World.mapE (enc : α → Value) (w : World) (b : Nat) (l : List (α × Value)) : Prop := ∃ es clock, w.heap[b]? = some (.map es clock) ∧ MapIs enc es clock l

theorem Ents.unique {enc : α → Value} (hinj : ∀ a b, enc a = enc b → a = b) {es : List MapEntry} : ∀ {l m : List (α × Value)}, Ents enc es l → Ents enc es m → l = m := by
  intro l m h1 h2
  unfold Ents at h1 h2
  rw [h1] at h2
  refine (List.map_inj_right ?_).1 h2
  rintro ⟨a, v⟩ ⟨b, u⟩ h
  simp only [Prod.mk.injEq] at h ⊢
  exact ⟨hinj _ _ h.1, h.2⟩

open Classical in
/-- What a block holds, if it is a map. -/
noncomputable def mapOf (enc : α → Value) (w : World) (b : Nat) : Option (List (α × Value)) :=
  if h : ∃ l, World.mapE enc w b l then some (Classical.choose h) else none

open Classical in
theorem mapOf_congr {p q : List (α × Value) → Prop} (h : p = q) : (if h : ∃ l, p l then some (Classical.choose h) else none : Option (List (α × Value))) = if h : ∃ l, q l then some (Classical.choose h) else none := by subst h; rfl

theorem World.mapE.unique {enc : α → Value} (hinj : ∀ a b, enc a = enc b → a = b) {w : World} {b : Nat} {l m : List (α × Value)} (h1 : World.mapE enc w b l) (h2 : World.mapE enc w b m) : l = m := by
  obtain ⟨es, c, he, hm⟩ := h1
  obtain ⟨es', c', he', hm'⟩ := h2
  rw [he] at he'
  cases he'
  exact hm.ents.unique hinj hm'.ents

theorem mapOf_eq {enc : α → Value} (hinj : ∀ a b, enc a = enc b → a = b) {w : World} {b : Nat} {l : List (α × Value)} (h : World.mapE enc w b l) : mapOf enc w b = some l := by
  unfold mapOf
  rw [dif_pos ⟨l, h⟩]
  exact congrArg some ((Classical.choose_spec (⟨l, h⟩ : ∃ l, World.mapE enc w b l)).unique hinj h)
theorem mapOf_some {enc : α → Value} {w : World} {b : Nat} {l : List (α × Value)} (h : mapOf enc w b = some l) : World.mapE enc w b l := by
  unfold mapOf at h
  split at h
  · rename_i hx
    rw [← Option.some.inj h]; exact Classical.choose_spec hx
  · cases h

theorem mapOf_block {enc : α → Value} {w w' : World} {b b' : Nat} (h : w'.heap[b']? = w.heap[b]?) : mapOf enc w' b' = mapOf enc w b := by
  have : (fun l => World.mapE enc w' b' l) = fun l => World.mapE enc w b l := by funext l; unfold World.mapE; rw [h]
  exact mapOf_congr this

@[go_sem] theorem mapOf_drew (enc : α → Value) (w : World) (b : Nat) : mapOf enc w.drew b = mapOf enc w b := mapOf_block rfl
@[go_sem] theorem mapOf_drewN (enc : α → Value) (w : World) (n b : Nat) : mapOf enc (w.drewN n) b = mapOf enc w b := mapOf_block rfl
@[go_sem] theorem mapOf_alloc (enc : α → Value) (w : World) (x : Obj) (b : Nat) (h : b ≠ w.heap.size) : mapOf enc (w.alloc x) b = mapOf enc w b :=
  mapOf_block (by rw [heap_alloc, if_neg h])
theorem mapE_new (enc : α → Value) (w : World) : World.mapE enc (w.alloc (.map #[] 0)) w.heap.size [] :=
  ⟨#[], 0, by rw [heap_alloc, if_pos rfl], ⟨rfl, by simp, by simp⟩⟩
theorem mapOf_setCell (enc : α → Value) (w : World) (a : Addr) (v : Value) (b : Nat) (h : b ≠ a.block) : mapOf enc (w.setCell a v) b = mapOf enc w b :=
  mapOf_block (Below.heap_setCell _ _ _ _ h)
theorem mapOf_splice (enc : α → Value) (w : World) (k o : Nat) (cs : Array Value) (b : Nat) (h : b ≠ k) : mapOf enc (splice w k o cs) b = mapOf enc w b :=
  mapOf_block (by rw [heap_splice, if_neg h])
theorem mapOf_below {enc : α → Value} {B : Nat} {w w' : World} (h : Below B w w') {b : Nat} (hb : b < B) : mapOf enc w' b = mapOf enc w b := mapOf_block (h.block b hb)

def lkRes (ok : Bool) (o : Option Value) (z : Value) : Value := if ok then .tuple #[o.getD z, .bool o.isSome] else o.getD z
@[go_sem] theorem lkRes_true (o : Option Value) (z : Value) : lkRes true o z = .tuple #[o.getD z, .bool o.isSome] := rfl
@[go_sem] theorem lkRes_false (o : Option Value) (z : Value) : lkRes false o z = o.getD z := rfl

section
variable [DecidableEq α] {P : Program} {MT KT ET : TypeId} {enc : α → Value} (K : KeyE P KT enc) (hM : P.underlying MT = some (.map KT ET))
include K hM

theorem run_lookup_of {zero : Value} (hz : ∀ w, (zeroValue ET).run P w = .ok zero w) {w : World} {b : Nat} {l : List (α × Value)} (h : World.mapE enc w b l) (k : α) (ok : Bool) :
    (Instr.lookup MT (.map (some b)) (enc k) ok).run P w = .ok (lkRes ok (get? k l) zero) w := by
  obtain ⟨es, clock, hb, hm⟩ := h
  have hf := K.find w k es.toList l hm.ents
  have hg := at?_get? k l 0
  cases hq : at? k l 0 with
  | none =>
    rw [hq] at hf hg
    simp only [Option.map_none] at hg
    rw [← hg]
    cases ok <;> simp [Instr.lookup, run_underlying hM, MapKept.run_getObj_map hb, K.check, hf, hz, lkRes, Result.andThen]
  | some iv =>
    rw [hq] at hf hg
    simp only [Option.map_some] at hg
    rw [← hg]
    cases ok <;> simp [Instr.lookup, run_underlying hM, MapKept.run_getObj_map hb, K.check, hf, lkRes, Result.andThen]

def badLookup (P : Program) (MT : TypeId) (w : World) (b : Nat) (k : Value) (ok : Bool) : Result Value := (Instr.lookup MT (.map (some b)) k ok).run P w

theorem run_lookup_map {zero : Value} (hz : ∀ w, (zeroValue ET).run P w = .ok zero w) (w : World) (b : Nat) (k : α) (ok : Bool) :
    (Instr.lookup MT (.map (some b)) (enc k) ok).run P w = (mapOf enc w b).elim (badLookup P MT w b (enc k) ok) fun l => .ok (lkRes ok (get? k l) zero) w := by
  cases h : mapOf enc w b with
  | none => rfl
  | some l => exact run_lookup_of K hM hz (mapOf_some h) k ok

theorem run_lookup_nil {zero : Value} (hz : ∀ w, (zeroValue ET).run P w = .ok zero w) (w : World) (k : α) (ok : Bool) :
    (Instr.lookup MT (.map none) (enc k) ok).run P w = .ok (lkRes ok none zero) w := by
  have hf := K.find w k [] [] rfl
  cases ok <;> simp [Instr.lookup, run_underlying hM, K.check, hf, at?, hz, lkRes, Result.andThen]
end

/-- Where the first entry with a key stands. -/
theorem at?_none [DecidableEq α] {k : α} : ∀ {l : List (α × Value)} {i : Nat}, at? k l i = none → k ∉ l.map (·.1)
  | [], _, _ => by simp
  | p :: r, i, h => by
    unfold at? at h
    split at h
    · cases h
    · rename_i hne
      have := at?_none h
      simp only [List.map_cons, List.mem_cons, not_or]
      exact ⟨hne, this⟩

theorem at?_split [DecidableEq α] {k : α} : ∀ {l : List (α × Value)} {i j : Nat} {v : Value}, at? k l i = some (j, v) →
    ∃ l1 l2, l = l1 ++ (k, v) :: l2 ∧ j = i + l1.length ∧ k ∉ l1.map (·.1)
  | [], _, _, _, h => by cases h
  | p :: r, i, j, v, h => by
    unfold at? at h
    split at h
    · rename_i he
      simp only [Option.some.injEq, Prod.mk.injEq] at h
      obtain ⟨rfl, rfl⟩ := h
      exact ⟨[], r, by subst he; rfl, rfl, by simp⟩
    · rename_i hne
      obtain ⟨l1, l2, rfl, rfl, hn⟩ := at?_split h
      exact ⟨p :: l1, l2, rfl, by simp; omega, by simp only [List.map_cons, List.mem_cons, not_or]; exact ⟨hne, hn⟩⟩

theorem putK_none [DecidableEq α] {k : α} {v : Value} : ∀ {l : List (α × Value)}, k ∉ l.map (·.1) → putK k v l = l ++ [(k, v)]
  | [], _ => rfl
  | p :: r, h => by
    simp only [List.map_cons, List.mem_cons, not_or] at h
    unfold putK; rw [if_neg h.1, putK_none h.2]; rfl
theorem putK_split [DecidableEq α] {k : α} {u v : Value} : ∀ {l1 l2 : List (α × Value)}, k ∉ l1.map (·.1) → putK k v (l1 ++ (k, u) :: l2) = l1 ++ (k, v) :: l2
  | [], _, _ => by simp [putK]
  | p :: r, l2, h => by
    simp only [List.map_cons, List.mem_cons, not_or] at h
    rw [List.cons_append]; unfold putK; rw [if_neg h.1, putK_split h.2]; rfl
theorem delK_none [DecidableEq α] {k : α} : ∀ {l : List (α × Value)}, k ∉ l.map (·.1) → delK k l = l
  | [], _ => rfl
  | p :: r, h => by
    simp only [List.map_cons, List.mem_cons, not_or] at h
    unfold delK; rw [if_neg h.1, delK_none h.2]
theorem delK_split [DecidableEq α] {k : α} {u : Value} : ∀ {l1 l2 : List (α × Value)}, k ∉ l1.map (·.1) → delK k (l1 ++ (k, u) :: l2) = l1 ++ l2
  | [], _, _ => by simp [delK]
  | p :: r, l2, h => by
    simp only [List.map_cons, List.mem_cons, not_or] at h
    rw [List.cons_append]; unfold delK; rw [if_neg h.1, delK_split h.2]; rfl

theorem modify_mid {β : Type} (e : β) (e2 : List β) (f : β → β) : ∀ e1 : List β, (e1 ++ e :: e2).modify e1.length f = e1 ++ f e :: e2
  | [] => rfl
  | x :: r => by simp [modify_mid e e2 f r]
theorem erase_mid {β : Type} (e : β) (e2 : List β) : ∀ e1 : List β, (e1 ++ e :: e2).eraseIdx e1.length = e1 ++ e2
  | [] => rfl
  | x :: r => by simp [erase_mid e e2 r]

/-- A world in which one block holds another object. -/
def putObj (w : World) (b : Nat) (x : Obj) : World := { w with heap := w.heap.setIfInBounds b x }
theorem heap_putObj (w : World) (b : Nat) (x : Obj) (k : Nat) (hb : b < w.heap.size) : (putObj w b x).heap[k]? = if k = b then some x else w.heap[k]? := by
  unfold putObj
  simp only [Array.getElem?_setIfInBounds]
  by_cases h : b = k
  · simp [h]; omega
  · rw [if_neg h, if_neg (Ne.symm h)]
@[simp] theorem size_putObj (w : World) (b : Nat) (x : Obj) : (putObj w b x).heap.size = w.heap.size := by simp [putObj]

/-- All blocks but b are as they were; nothing has gone; whatever is outside memory is as it was. -/
structure Only (b : Nat) (w w' : World) : Prop where
  os : w'.os = w.os
  tape : w'.tape = w.tape
  output : w'.output = w.output
  size : w.heap.size ≤ w'.heap.size
  block : ∀ k, k < w.heap.size → k ≠ b → w'.heap[k]? = w.heap[k]?

theorem Only.below {b B : Nat} {w w' : World} (h : Only b w w') (hb : B ≤ b) (hB : B ≤ w.heap.size) : Below B w w' :=
  ⟨h.os, h.tape, h.output, h.size, fun k hk => h.block k (by omega) (by omega)⟩
theorem Only.refl (b : Nat) (w : World) : Only b w w := ⟨rfl, rfl, rfl, Nat.le_refl _, fun _ _ _ => rfl⟩
theorem Only.trans {b : Nat} {u v w : World} (h : Only b u v) (k : Only b v w) : Only b u w :=
  ⟨k.os.trans h.os, k.tape.trans h.tape, k.output.trans h.output, Nat.le_trans h.size k.size, fun i hi hne => (k.block i (Nat.lt_of_lt_of_le hi h.size) hne).trans (h.block i hi hne)⟩
theorem Below.only {w w' : World} (h : Below w.heap.size w w') (b : Nat) : Only b w w' := ⟨h.os, h.tape, h.output, h.size, fun k hk _ => h.block k hk⟩
theorem only_putObj (w : World) (b : Nat) (x : Obj) : Only b w (putObj w b x) :=
  ⟨rfl, rfl, rfl, by simp, fun k _ hne => by unfold putObj; simp only [Array.getElem?_setIfInBounds]; rw [if_neg (Ne.symm hne)]⟩
theorem only_drew {b : Nat} {u w : World} (h : Only b u w) : Only b u w.drew := ⟨h.os, h.tape, h.output, h.size, h.block⟩

theorem only_alloc {b : Nat} {u w : World} (h : Only b u w) (x : Obj) : Only b u (w.alloc x) :=
  ⟨h.os, h.tape, h.output, Nat.le_trans h.size (by simp), fun k hk hne => by rw [heap_alloc, if_neg (by have := h.size; omega)]; exact h.block k hk hne⟩
theorem only_splice {b : Nat} {u w : World} (h : Only b u w) (o : Nat) (cs : Array Value) : Only b u (splice w b o cs) :=
  ⟨h.os, h.tape, h.output, by simpa using h.size, fun k hk hne => by rw [heap_splice, if_neg hne]; exact h.block k hk hne⟩
theorem only_below {b : Nat} {u v w : World} (h : Only b u v) (k : Below v.heap.size v w) : Only b u w := h.trans (Below.only k b)

section
variable [DecidableEq α] {P : Program} {MT KT ET : TypeId} {enc : α → Value} (K : KeyE P KT enc) (hM : P.underlying MT = some (.map KT ET))
include K hM

theorem run_update_of {w : World} {b : Nat} {l : List (α × Value)} (h : World.mapE enc w b l) (k : α) (v : Value) :
    ∃ w', (Instr.mapUpdate MT (.map (some b)) (enc k) v).run P w = .ok () w' ∧ World.mapE enc w' b (putK k v l) ∧ Only b w w' ∧ w'.heap.size = w.heap.size := by
  obtain ⟨es, clock, hb, hm⟩ := h
  have hbl : b < w.heap.size := (Array.getElem?_eq_some_iff.1 hb).1
  have hf := K.find w k es.toList l hm.ents
  cases hq : at? k l 0 with
  | none =>
    rw [hq] at hf
    have hn := at?_none hq
    refine ⟨putObj w b (.map (es.push { key := enc k, val := v, born := clock }) (clock + 1)), ?_, ?_, only_putObj _ _ _, by simp⟩
    · simp [Instr.mapUpdate, run_underlying hM, MapKept.run_getObj_map hb, K.check, hf, MapKept.run_setObj_map _ hb, Result.andThen]; rfl
    · refine ⟨_, _, by rw [heap_putObj _ _ _ _ hbl, if_pos rfl], ⟨?_, ?_, ?_⟩⟩
      · rw [putK_none hn]
        have := hm.ents
        unfold Ents at this ⊢
        simp [this]
      · intro e he
        simp only [Array.toList_push, List.mem_append, List.mem_singleton] at he
        rcases he with he | rfl
        · have := hm.born e he; omega
        · simp
      · simp only [Array.toList_push]
        refine List.pairwise_append.2 ⟨hm.apart, by simp, ?_⟩
        intro x hx y hy
        simp only [List.mem_singleton] at hy
        subst hy
        have := hm.born x hx
        simp; omega
  | some iv =>
    obtain ⟨j, u⟩ := iv
    rw [hq] at hf
    obtain ⟨l1, l2, rfl, rfl, hn⟩ := at?_split hq
    simp only [Nat.zero_add] at hf
    have he := hm.ents
    unfold Ents at he
    simp only [List.map_append, List.map_cons] at he
    obtain ⟨e1, e2', hes, h1, h2⟩ := List.map_eq_append_iff.1 he
    obtain ⟨e, e2, rfl, h3, h4⟩ := List.map_eq_cons_iff.1 h2
    have hlen : e1.length = l1.length := by simpa using congrArg List.length h1
    simp only [Prod.mk.injEq] at h3
    have hget : es[l1.length]? = some e := by
      rw [← Array.getElem?_toList, hes, ← hlen]; simp
    have hmod : (es.modify l1.length fun x => { x with key := enc k, val := v }).toList = e1 ++ { e with key := enc k, val := v } :: e2 := by
      rw [Array.toList_modify, hes, ← hlen, modify_mid]
    refine ⟨putObj w b (.map (es.modify l1.length fun x => { x with key := enc k, val := v }) clock), ?_, ?_, only_putObj _ _ _, by simp⟩
    · simp [Instr.mapUpdate, run_underlying hM, MapKept.run_getObj_map hb, K.check, hf, MapKept.run_setObj_map _ hb, Result.andThen, hget, h3.1, Instr.keyThatStays, K.same]; rfl
    · refine ⟨_, _, by rw [heap_putObj _ _ _ _ hbl, if_pos rfl], ⟨?_, ?_, ?_⟩⟩
      · rw [putK_split hn]
        unfold Ents
        rw [hmod]
        simp [h1, h4]
      · intro x hx
        rw [hmod] at hx
        have := hm.born
        rw [hes] at this
        simp only [List.mem_append, List.mem_cons] at hx this
        rcases hx with hx | rfl | hx
        · exact this x (.inl hx)
        · exact this e (.inr (.inl rfl))
        · exact this x (.inr (.inr hx))
      · rw [hmod]
        have := hm.apart
        rw [hes] at this
        simp only [List.pairwise_append, List.pairwise_cons, List.mem_cons] at this ⊢
        obtain ⟨ha, ⟨hb1, hb2⟩, hc⟩ := this
        refine ⟨ha, ⟨hb1, hb2⟩, ?_⟩
        intro x hx y hy
        rcases hy with rfl | hy
        · exact hc x hx e (.inl rfl)
        · exact hc x hx y (.inr hy)

theorem run_delete_of {w : World} {b : Nat} {l : List (α × Value)} (h : World.mapE enc w b l) (k : α) (ty : TypeId) (ts : Array TypeId) (ht : ts[0]? = some MT) :
    ∃ w', (Builtin.delete_ ts ty #[.map (some b), enc k]).run P w = .ok (.tuple #[]) w' ∧ World.mapE enc w' b (delK k l) ∧ Only b w w' ∧ w'.heap.size = w.heap.size := by
  obtain ⟨es, clock, hb, hm⟩ := h
  have hbl : b < w.heap.size := (Array.getElem?_eq_some_iff.1 hb).1
  have hf := K.find w k es.toList l hm.ents
  cases hq : at? k l 0 with
  | none =>
    rw [hq] at hf
    have hn := at?_none hq
    refine ⟨putObj w b (.map es clock), ?_, ?_, only_putObj _ _ _, by simp⟩
    · simp [Builtin.delete_, ht, run_underlying hM, MapKept.run_getObj_map hb, K.check, hf, MapKept.run_setObj_map _ hb, Result.andThen]; rfl
    · exact ⟨_, _, by rw [heap_putObj _ _ _ _ hbl, if_pos rfl], by rw [delK_none hn]; exact hm⟩
  | some iv =>
    obtain ⟨j, u⟩ := iv
    rw [hq] at hf
    obtain ⟨l1, l2, rfl, rfl, hn⟩ := at?_split hq
    simp only [Nat.zero_add] at hf
    have he := hm.ents
    unfold Ents at he
    simp only [List.map_append, List.map_cons] at he
    obtain ⟨e1, e2', hes, h1, h2⟩ := List.map_eq_append_iff.1 he
    obtain ⟨e, e2, rfl, h3, h4⟩ := List.map_eq_cons_iff.1 h2
    have hlen : e1.length = l1.length := by simpa using congrArg List.length h1
    have hers : (es.eraseIdxIfInBounds l1.length).toList = e1 ++ e2 := by
      have hlt : l1.length < es.size := by rw [← Array.length_toList, hes]; simp; omega
      simp only [Array.eraseIdxIfInBounds, hlt, dif_pos, Array.toList_eraseIdx]
      rw [hes, ← hlen, erase_mid]
    refine ⟨putObj w b (.map (es.eraseIdxIfInBounds l1.length) clock), ?_, ?_, only_putObj _ _ _, by simp⟩
    · simp [Builtin.delete_, ht, run_underlying hM, MapKept.run_getObj_map hb, K.check, hf, MapKept.run_setObj_map _ hb, Result.andThen]; rfl
    · refine ⟨_, _, by rw [heap_putObj _ _ _ _ hbl, if_pos rfl], ⟨?_, ?_, ?_⟩⟩
      · rw [delK_split hn]
        unfold Ents
        rw [hers]
        simp [h1, h4]
      · intro x hx
        rw [hers] at hx
        have := hm.born
        rw [hes] at this
        simp only [List.mem_append, List.mem_cons] at hx this
        rcases hx with hx | hx
        · exact this x (.inl hx)
        · exact this x (.inr (.inr hx))
      · rw [hers]
        have := hm.apart
        rw [hes] at this
        simp only [List.pairwise_append, List.pairwise_cons, List.mem_cons] at this ⊢
        obtain ⟨ha, ⟨hb1, hb2⟩, hc⟩ := this
        exact ⟨ha, hb2, fun x hx y hy => hc x hx y (.inr hy)⟩
end

theorem run_len_map {P : Program} {MT KT ET : TypeId} {enc : α → Value} (hM : P.underlying MT = some (.map KT ET)) {w : World} {b : Nat} {l : List (α × Value)} (h : World.mapE enc w b l) (ty : TypeId) :
    (Builtin.len_ #[MT] ty #[.map (some b)]).run P w = .ok (.int .i64 l.length) w := by
  obtain ⟨es, clock, hb, hm⟩ := h
  have : es.size = l.length := by have := congrArg List.length hm.ents; simpa using this
  simp [Builtin.len_, run_underlying hM, MapKept.run_getObj_map hb, Result.andThen, goInt, this]

@[go_sem ↓] theorem run_makeMap_none {P : Program} (t : TypeId) (w : World) : (Instr.makeMap t none).run P w = .ok (.map (some w.heap.size)) (w.alloc (.map #[] 0)) := by
  simp [Instr.makeMap]

end Go.Proofs.Ytdmhaajekmaadaa
