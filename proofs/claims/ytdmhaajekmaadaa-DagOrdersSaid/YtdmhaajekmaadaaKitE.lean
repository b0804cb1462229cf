/- A map gone over, in whatever order; nothing comes into it meanwhile. No condition. -/
import Derived.Test.YtdmhaajekmaadaaKitD
namespace Go.Proofs.Ytdmhaajekmaadaa
open Go.RowKit
variable {α : Type}

theorem map_eraseIdx {β γ : Type} (f : β → γ) : ∀ (l : List β) (j : Nat), (l.eraseIdx j).map f = (l.map f).eraseIdx j
  | [], _ => rfl
  | _ :: _, 0 => rfl
  | x :: r, j + 1 => by simp [map_eraseIdx f r j]

theorem perm_eraseIdx {β : Type} : ∀ (l : List β) (j : Nat) (v : β), l[j]? = some v → (v :: l.eraseIdx j).Perm l
  | [], _, _, h => by simp at h
  | x :: r, 0, v, h => by simp at h; subst h; exact List.Perm.refl _
  | x :: r, j + 1, v, h => by
    simp at h
    rw [List.eraseIdx_cons_succ]
    exact (List.Perm.swap x v _).trans ((perm_eraseIdx r j v h).cons x)

/-- The entries that an iterator hasn't met. -/
def unmet (es : Array MapEntry) (seen : Array Nat) : List MapEntry := es.toList.filter fun e => !seen.contains e.born

/-- Block r is an iterator over the map in block b, whose entries are l; those of left are still to come. -/
structure IterAt (enc : α → Value) (w : World) (r b : Nat) (l left : List (α × Value)) : Prop where
  it : ∃ es clock seen, w.heap[b]? = some (.map es clock) ∧ MapIs enc es clock l ∧ w.heap[r]? = some (.mapIter (some b) clock seen clock) ∧ Ents enc (unmet es seen) left

/-- .. and the entry that it met last is p. -/
structure LastAt (enc : α → Value) (w : World) (r b : Nat) (p : α × Value) : Prop where
  it : ∃ (es : Array MapEntry) (clock : Nat) (seen : Array Nat) (e : MapEntry), w.heap[b]? = some (.map es clock) ∧ w.heap[r]? = some (.mapIter (some b) clock (seen.push e.born) clock) ∧ es.find? (fun x => x.born == e.born) = some e ∧ e.key = enc p.1 ∧ e.val = p.2

theorem IterAt.block {enc : α → Value} {w w' : World} {r b : Nat} {l left : List (α × Value)} (h : IterAt enc w r b l left) (hb : w'.heap[b]? = w.heap[b]?) (hr : w'.heap[r]? = w.heap[r]?) : IterAt enc w' r b l left := by
  obtain ⟨es, clock, seen, h1, h2, h3, h4⟩ := h.it
  exact ⟨es, clock, seen, hb.trans h1, h2, hr.trans h3, h4⟩
theorem LastAt.block {enc : α → Value} {w w' : World} {r b : Nat} {p : α × Value} (h : LastAt enc w r b p) (hb : w'.heap[b]? = w.heap[b]?) (hr : w'.heap[r]? = w.heap[r]?) : LastAt enc w' r b p := by
  obtain ⟨es, clock, seen, e, h1, h2, h3⟩ := h.it
  exact ⟨es, clock, seen, e, hb.trans h1, hr.trans h2, h3⟩

theorem IterAt.map {enc : α → Value} {w : World} {r b : Nat} {l left : List (α × Value)} (h : IterAt enc w r b l left) : World.mapE enc w b l := by
  obtain ⟨es, clock, seen, h1, h2, h3, h4⟩ := h.it
  exact ⟨es, clock, h1, h2⟩
theorem IterAt.lt {enc : α → Value} {w : World} {r b : Nat} {l left : List (α × Value)} (h : IterAt enc w r b l left) : b < w.heap.size ∧ r < w.heap.size := by
  obtain ⟨es, clock, seen, h1, h2, h3, h4⟩ := h.it
  exact ⟨(Array.getElem?_eq_some_iff.1 h1).1, (Array.getElem?_eq_some_iff.1 h3).1⟩

theorem run_range_map {P : Program} {MT KT ET : TypeId} {enc : α → Value} (hM : P.underlying MT = some (.map KT ET)) {w : World} {b : Nat} {l : List (α × Value)} (h : World.mapE enc w b l) :
    ∃ x, (Instr.range MT (.map (some b))).run P w = .ok (.pointer (some ⟨w.heap.size, 0, none⟩)) (w.alloc x) ∧ IterAt enc (w.alloc x) w.heap.size b l l ∧ (∀ o n, rowOf x o n = none) := by
  obtain ⟨es, clock, hb, hm⟩ := h
  have hlt : b < w.heap.size := (Array.getElem?_eq_some_iff.1 hb).1
  refine ⟨.mapIter (some b) clock #[] clock, ?_, ⟨es, clock, #[], ?_, hm, ?_, ?_⟩, fun _ _ => rfl⟩
  · simp [Instr.range, run_underlying hM, MapKept.run_getObj_map hb, Result.andThen]
  · rw [heap_alloc, if_neg (by omega)]; exact hb
  · rw [heap_alloc, if_pos rfl]
  · have : unmet es #[] = es.toList := by unfold unmet; simp
    rw [this]; exact hm.ents

theorem run_getObj_iter {P : Program} {w : World} {r : Nat} {m : Option Nat} {a : Nat} {s : Array Nat} {c : Nat} (h : w.heap[r]? = some (.mapIter m a s c)) : (getObj r).run P w = .ok (.mapIter m a s c) w := by
  simp [getObj, Sem.run, h]
theorem run_setObj_iter {P : Program} {w : World} {r : Nat} {m : Option Nat} {a : Nat} {s : Array Nat} {c : Nat} (h : w.heap[r]? = some (.mapIter m a s c)) (x : Obj) : (setObj r x).run P w = .ok () (putObj w r x) := by
  simp [setObj, Sem.run, h, putObj]

theorem unmet_push {es : Array MapEntry} {clock : Nat} {seen : Array Nat} {enc : α → Value} {l left : List (α × Value)} (hm : MapIs enc es clock l) (hl : Ents enc (unmet es seen) left) (j : Nat) (e : MapEntry) (he : (unmet es seen)[j]? = some e) :
    Ents enc (unmet es (seen.push e.born)) (left.eraseIdx j) := by
  have key : unmet es (seen.push e.born) = (unmet es seen).eraseIdx j := by
    have h1 : unmet es (seen.push e.born) = (unmet es seen).filter fun x => !(x.born == e.born) := by
      unfold unmet
      rw [List.filter_filter]
      apply List.filter_congr
      intro x _
      simp only [Array.contains_push, Bool.not_or]
      rw [Bool.and_comm]
    rw [h1]
    have hp : (unmet es seen).Pairwise fun x y => x.born ≠ y.born := List.Pairwise.filter _ hm.apart
    have : ∀ (m : List MapEntry) (j : Nat), m.Pairwise (fun x y => x.born ≠ y.born) → m[j]? = some e → (m.filter fun x => !(x.born == e.born)) = m.eraseIdx j := by
      intro m
      induction m with
      | nil => intro j _ h; simp at h
      | cons x m ih =>
        intro j hp h
        cases j with
        | zero =>
          simp only [List.getElem?_cons_zero, Option.some.injEq] at h
          subst h
          simp only [List.filter_cons, beq_self_eq_true, Bool.not_true, Bool.false_eq_true, if_false, List.eraseIdx_cons_zero]
          apply List.filter_eq_self.2
          intro y hy
          have := (List.pairwise_cons.1 hp).1 y hy
          simp; exact fun h => this h.symm
        | succ j =>
          simp only [List.getElem?_cons_succ] at h
          have hne := (List.pairwise_cons.1 hp).1 e (List.mem_of_getElem? h)
          simp only [List.filter_cons, List.eraseIdx_cons_succ]
          rw [if_pos (by simp; exact hne), ih j (List.pairwise_cons.1 hp).2 h]
    exact this _ j hp he
  rw [key]
  unfold Ents at hl ⊢
  rw [map_eraseIdx, hl, map_eraseIdx]

/-- ONE STEP: over, where all was met; else some entry that wasn't. -/
theorem run_next_map {P : Program} {enc : α → Value} {w : World} {r b : Nat} {l left : List (α × Value)} (h : IterAt enc w r b l left) (hrb : r ≠ b) (T : TypeId) :
    (left = [] ∧ (Instr.next (.pointer (some ⟨r, 0, none⟩)) false T).run P w = .ok (.tuple #[.bool false]) w) ∨
    (∃ j p w', left[j]? = some p ∧ (Instr.next (.pointer (some ⟨r, 0, none⟩)) false T).run P w = .ok (.tuple #[.bool true, enc p.1, p.2]) w' ∧
      IterAt enc w' r b l (left.eraseIdx j) ∧ LastAt enc w' r b p ∧ Only r w w' ∧ w'.heap.size = w.heap.size) := by
  obtain ⟨es, clock, seen, h1, h2, h3, h4⟩ := h.it
  have hbl : b < w.heap.size := (Array.getElem?_eq_some_iff.1 h1).1
  have hrl : r < w.heap.size := (Array.getElem?_eq_some_iff.1 h3).1
  have hgo : (!seen.isEmpty && !es.isEmpty && es.all (·.born ≥ clock)) = false := by
    by_cases he : es = #[]
    · simp [he]
    · have : ∃ e, e ∈ es.toList := by
        cases hl : es.toList with
        | nil => exact absurd (by simpa using hl) he
        | cons e r => exact ⟨e, by simp⟩
      obtain ⟨e, hm⟩ := this
      have hb := h2.born e hm
      have : es.all (·.born ≥ clock) = false := by
        rw [Array.all_eq_false]
        obtain ⟨i, hi, he⟩ := List.mem_iff_getElem.1 hm
        refine ⟨i, by simpa using hi, ?_⟩
        have : es[i]'(by simpa using hi) = e := by simpa using he
        rw [this]; simp; omega
      simp [this]
  have hleft : (es.filter fun e => !seen.contains e.born).toList = unmet es seen := by unfold unmet; simp
  have hold : ((es.filter fun e => !seen.contains e.born).filter fun e => decide (e.born < clock)) = es.filter fun e => !seen.contains e.born := by
    apply Array.toList_inj.1
    rw [Array.toList_filter]
    apply List.filter_eq_self.2
    intro x hx
    rw [hleft] at hx
    have := h2.born x (List.mem_filter.1 hx).1
    simpa using this
  have hnew : ((es.filter fun e => !seen.contains e.born).filter fun e => decide (e.born ≥ clock)) = #[] := by
    apply Array.toList_inj.1
    rw [Array.toList_filter]
    apply List.filter_eq_nil_iff.2
    intro x hx
    rw [hleft] at hx
    have := h2.born x (List.mem_filter.1 hx).1
    simp; omega
  have hlen : (unmet es seen).length = left.length := by have := congrArg List.length h4; simpa using this
  have hsz : (es.filter fun e => !seen.contains e.born).size = left.length := by rw [← Array.length_toList, hleft, hlen]
  have hcand : ∀ (C : Array (Option MapEntry)), C = (if (es.filter fun e : MapEntry => !seen.contains e.born).isEmpty then #[none] else #[]) ++ ((es.filter fun e : MapEntry => !seen.contains e.born) ++ #[]).map some →
      (left = [] ∧ C = #[none]) ∨ (left ≠ [] ∧ C = (es.filter fun e : MapEntry => !seen.contains e.born).map some) := by
    intro C hC
    rw [hC, Array.append_empty]
    by_cases hl : left = []
    · refine .inl ⟨hl, ?_⟩
      have : (es.filter fun e : MapEntry => !seen.contains e.born) = #[] := by apply Array.eq_empty_of_size_eq_zero; rw [hsz, hl]; rfl
      rw [this]; simp
    · refine .inr ⟨hl, ?_⟩
      have : (es.filter fun e : MapEntry => !seen.contains e.born).isEmpty = false := by
        rw [Array.isEmpty_eq_false_iff]; intro h; apply hl; apply List.eq_nil_of_length_eq_zero; rw [← hsz, h]; rfl
      rw [this]; simp
  have hrun : (Instr.next (.pointer (some ⟨r, 0, none⟩)) false T).run P w = ((choose (.mapNext ((if (es.filter fun e : MapEntry => !seen.contains e.born).isEmpty then #[none] else #[]) ++ ((es.filter fun e : MapEntry => !seen.contains e.born) ++ #[]).map some).size)).run P w).andThen fun k w' =>
      (match (((if (es.filter fun e : MapEntry => !seen.contains e.born).isEmpty then #[none] else #[]) ++ ((es.filter fun e : MapEntry => !seen.contains e.born) ++ #[]).map some : Array (Option MapEntry)))[k]? with
      | some (some e) => do
        setObj r (.mapIter (some b) clock (seen.push e.born) clock)
        pure (.tuple #[.bool true, e.key, e.val])
      | some none => pure (.tuple #[.bool false])
      | none => stuck "Next: no such candidate" : Sem Value).run P w' := by
    simp only [Instr.next, Sem.run_bind, run_getObj_iter h3, MapKept.run_getObj_map h1, Result.andThen_ok]
    rw [hgo, hold, hnew]
    simp only [Bool.false_eq_true, if_false, Sem.run_bind]
    rfl
  generalize hC : ((if (es.filter fun e : MapEntry => !seen.contains e.born).isEmpty then #[none] else #[]) ++ ((es.filter fun e : MapEntry => !seen.contains e.born) ++ #[]).map some : Array (Option MapEntry)) = C at hrun
  rcases hcand C hC.symm with ⟨hl, rfl⟩ | ⟨hl, hCe⟩
  · refine .inl ⟨hl, ?_⟩
    rw [hrun]
    simp [choose, Sem.run, Question.forced]
  · right
    have hCs : C.size = left.length := by rw [hCe]; simpa using hsz
    have hpos : 0 < left.length := List.length_pos_iff.2 hl
    have hch : ∃ k w0, (choose (.mapNext C.size)).run P w = .ok k w0 ∧ k < left.length ∧ (w0 = w ∨ w0 = w.drew) := by
      by_cases hf : C.size ≤ 1
      · exact ⟨0, w, by simp [choose, Sem.run, Question.forced, hf], hpos, .inl rfl⟩
      · refine ⟨w.tape w.drawn (.mapNext C.size) % C.size, w.drew, by simp [choose, Sem.run, Question.forced, hf, Question.cut], ?_, .inr rfl⟩
        rw [← hCs]; exact Nat.mod_lt _ (by omega)
    obtain ⟨k, w0, hk, hkl, hw0⟩ := hch
    have hke : ∃ e, (unmet es seen)[k]? = some e ∧ C[k]? = some (some e) := by
      have hlt : k < (unmet es seen).length := by omega
      refine ⟨(unmet es seen)[k], List.getElem?_eq_getElem hlt, ?_⟩
      rw [hCe, Array.getElem?_map, ← Array.getElem?_toList, hleft, List.getElem?_eq_getElem hlt]; rfl
    obtain ⟨e, he, hce⟩ := hke
    have hlk : left[k]? = some left[k] := List.getElem?_eq_getElem hkl
    have hpe : (e.key, e.val) = (enc left[k].1, left[k].2) := by
      have := congrArg (fun m => m[k]?) h4
      simpa [he, hlk] using this
    simp only [Prod.mk.injEq] at hpe
    have hw0h : w0.heap = w.heap := by rcases hw0 with rfl | rfl <;> rfl
    have h3' : w0.heap[r]? = some (.mapIter (some b) clock seen clock) := by rw [hw0h]; exact h3
    refine ⟨k, left[k], putObj w0 r (.mapIter (some b) clock (seen.push e.born) clock), hlk, ?_, ⟨es, clock, seen.push e.born, ?_, h2, ?_, unmet_push h2 h4 k e he⟩, ⟨es, clock, seen, e, ?_, ?_, ?_, hpe.1, hpe.2⟩, ?_, by simp [hw0h]⟩
    · rw [hrun, hk, Result.andThen_ok, hce]
      simp only [Sem.run_bind, run_setObj_iter h3', Result.andThen_ok, Sem.run_pure, hpe.1, hpe.2]
    · rw [heap_putObj _ _ _ _ (by rw [hw0h]; exact hrl), if_neg (Ne.symm hrb), hw0h]; exact h1
    · rw [heap_putObj _ _ _ _ (by rw [hw0h]; exact hrl), if_pos rfl]
    · rw [heap_putObj _ _ _ _ (by rw [hw0h]; exact hrl), if_neg (Ne.symm hrb), hw0h]; exact h1
    · rw [heap_putObj _ _ _ _ (by rw [hw0h]; exact hrl), if_pos rfl]
    · have hme : e ∈ es.toList := (List.mem_filter.1 (List.mem_of_getElem? he)).1
      have : ∀ m : List MapEntry, m.Pairwise (fun x y => x.born ≠ y.born) → e ∈ m → m.find? (fun x => x.born == e.born) = some e := by
        intro m
        induction m with
        | nil => intro _ h; simp at h
        | cons x m ih =>
          intro hp hm
          rw [List.find?_cons]
          simp only [List.mem_cons] at hm
          rcases hm with rfl | hm
          · simp
          · have := (List.pairwise_cons.1 hp).1 e hm
            have hx : (x.born == e.born) = false := by simpa using this
            rw [hx]; exact ih (List.pairwise_cons.1 hp).2 hm
      rw [← Array.find?_toList]
      exact this _ h2.apart hme
    · rcases hw0 with rfl | rfl
      · exact only_putObj _ _ _
      · exact ⟨rfl, rfl, rfl, by simp, fun k hk hne => (only_putObj w.drew r _).block k hk hne⟩

/-- How many entries are still to come. -/
def iterLeft (w : World) (r b : Nat) : Nat :=
  match w.heap[r]?, w.heap[b]? with
  | some (.mapIter _ _ seen _), some (.map es _) => (unmet es seen).length
  | _, _ => 0
theorem IterAt.count {enc : α → Value} {w : World} {r b : Nat} {l left : List (α × Value)} (h : IterAt enc w r b l left) : iterLeft w r b = left.length := by
  obtain ⟨es, clock, seen, h1, h2, h3, h4⟩ := h.it
  unfold iterLeft
  rw [h1, h3]
  have := congrArg List.length h4
  simpa using this
theorem IterAt.below {enc : α → Value} {B : Nat} {w w' : World} {r b : Nat} {l left : List (α × Value)} (h : IterAt enc w r b l left) (hB : Below B w w') (h1 : b < B) (h2 : r < B) : IterAt enc w' r b l left := h.block (hB.block b h1) (hB.block r h2)
theorem LastAt.below {enc : α → Value} {B : Nat} {w w' : World} {r b : Nat} {p : α × Value} (h : LastAt enc w r b p) (hB : Below B w w') (h1 : b < B) (h2 : r < B) : LastAt enc w' r b p := h.block (hB.block b h1) (hB.block r h2)

/-- The entry that was met last. -/
theorem run_entry_map {P : Program} {enc : α → Value} {w : World} {r b : Nat} {p : α × Value} (h : LastAt enc w r b p) :
    (Instr.entry (.pointer (some ⟨r, 0, none⟩))).run P w = .ok (.tuple #[enc p.1, p.2]) w := by
  obtain ⟨es, clock, seen, e, h1, h2, h3, h4, h5⟩ := h.it
  simp [Instr.entry, run_getObj_iter h2, MapKept.run_getObj_map h1, Result.andThen, h3, h4, h5]

end Go.Proofs.Ytdmhaajekmaadaa
