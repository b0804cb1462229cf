/- The store of vertices: Floor, Get, the order's function. No condition but that the store lies as New and Insert lay it. -/
import Derived.Test.YtdmhaajekmaadaaDagC
namespace Go.Proofs.Ytdmhaajekmaadaa
open Go.RowKit

/-- Depths that may be. -/
def Bd (l : List V) : Prop := ∀ v ∈ l, 0 ≤ v.depth ∧ v.depth ≤ 4611686018427387903

theorem headOf_mem {l : List V} (hap : Apart l) {h : V} (e : headOf l = some h) : h ∈ l := by
  have := headOf_is hap; rw [e] at this; exact this.1

set_option maxHeartbeats 400000 in
set_option maxRecDepth 100000 in
theorem Floor_any (bs bm : Nat) (keep : Int) (h1 : 1 ≤ keep) (h2 : keep ≤ 64) (l : List V) (hap : Apart l) (hbd : Bd l) (w : World) (h : St w bs bm keep l) :
    Calls Try.prog 10 #[.pointer (some ⟨bs, 0, none⟩)] w fun e w' => e = .returned (.int .i64 (floorOf keep l)) ∧ Below w.heap.size w w' := by
  have hcon := Head_any bs bm keep l hap w h
  have hst : ∀ W, Below w.heap.size w W → W.cell? ⟨bs, 0, none⟩ = some (.int .i64 keep) ∧ bs < W.heap.size := fun W hb => ⟨(h.later hb).c0, (h.later hb).lt⟩
  have hlt := h.lt
  cases ho : headOf l with
  | none =>
    rw [ho] at hcon
    have hf : floorOf keep l = 0 := by unfold floorOf; rw [ho]
    have HF := Lib.hid hf
    simp only [Option.getD_none, Option.isSome_none] at hcon
    clear hf ho h hst
    go_enter Try.func10, Try.ntmps10
    go_wp2_with fail
    refine hcon.mono ?_
    rintro e W1 ⟨rfl, hb1⟩
    have HB := Lib.hid hb1
    clear hb1 hcon
    go_wp2
    go_ret
    exact ⟨by rw [HF.out]; rfl, HB.out.trans (((Below.refl _ _).alloc (Nat.le_refl _) _).mono HB.out.size)⟩
  | some hd =>
    rw [ho] at hcon
    obtain ⟨b1, b2⟩ := hbd hd (headOf_mem hap ho)
    have hf : floorOf keep l = max (hd.depth - keep) 0 := by unfold floorOf; rw [ho]
    have HF := Lib.hid hf
    simp only [Option.getD_some, Option.isSome_some] at hcon
    clear hf ho h
    go_enter Try.func10, Try.ntmps10
    go_wp2_with fail
    refine hcon.mono ?_
    rintro e W1 ⟨rfl, hb1⟩
    obtain ⟨c0, hlt1⟩ := hst W1 hb1
    have HB := Lib.hid hb1
    clear hb1 hcon hst
    go_wp2
    go_quiet (fail)
    go_wp2
    all_goals
      go_ret
      refine ⟨?_, HB.out.trans (below_drewN (((Below.refl _ _).alloc (Nat.le_refl _) _).mono HB.out.size) _)⟩
      rw [HF.out]
      refine congrArg (fun n => Ending.returned (.int .i64 n)) ?_
      omega

set_option maxHeartbeats 400000 in
set_option maxRecDepth 100000 in
theorem Get_any (bs bm : Nat) (keep : Int) (l : List V) (id : H32) (w : World) (h : St w bs bm keep l) :
    Calls Try.prog 12 #[.pointer (some ⟨bs, 0, none⟩), .agg (hcells id)] w fun e w' => e = .returned (.tuple #[.agg (vcells ((findV id l).getD V.zero)), .bool (findV id l).isSome]) ∧ Below w.heap.size w w' := by
  go_enter Try.func12, Try.ntmps12
  obtain ⟨W1, hW1⟩ : ∃ W1, (w.alloc (Obj.cells (hcells id) 32)).alloc (Obj.cells (vcells V.zero) 35) = W1 := ⟨_, rfl⟩
  have hB1 : Below w.heap.size w W1 := by subst hW1; exact ((Below.refl _ _).alloc (Nat.le_refl _) _).alloc (by simp) _
  have hr1 : rowAt W1 w.heap.size 0 32 = some (hcells id) := by subst hW1; rw [rowAt_of (c := hcells id) (t := 32) (fr := (0, 0)) (by rw [heap_alloc, if_neg (by simp), heap_alloc, if_pos rfl]) 0 32 (by simp)]; simp [extract_all]
  have hr2 : W1.heap[w.heap.size + 1]? = some (.cells (vcells V.zero) 35) := by subst hW1; rw [heap_alloc, if_pos (by simp)]
  have hs1 : W1.heap.size = w.heap.size + 2 := by subst hW1; simp
  have h1 := h.later hB1
  have c1 := h1.c1
  have hmo := h1.mapOf
  have hl1 := h1.lt
  have hl2 := h1.ltm
  have hne : bm ≠ W1.heap.size := by omega
  have hne2 : w.heap.size ≠ W1.heap.size := by omega
  have hlt3 : w.heap.size < W1.heap.size := by omega
  have hne3 : w.heap.size + 1 ≠ W1.heap.size := by omega
  have hcp : canPut W1 (w.heap.size + 1) 0 66 = true := canPut_of hr2 0 66 (by simp)
  have hg := get?_find id l
  generalize l.map (fun v => (v.id, Value.agg (vcells v))) = kvs at *
  generalize findV id l = o at *
  have HS := Lib.hid hs1
  have HR := Lib.hid hr2
  have HB := Lib.hid hB1
  clear h h1 hs1 hr2 hB1
  cases o with
  | none =>
    simp only [Option.map_none, Option.getD_none, Option.isSome_none] at *
    go_wp2
    go_region
    go_wp2
    refine bodyPost_ret (results_row_tmp rfl _ _ rowV (g := w.heap.size + 1) (cs := vcells V.zero) rfl ?_) rfl ⟨rfl, ?_⟩
    · rw [rowAt_drew, rowAt_alloc, if_neg (by simpa using hne3)]
      exact rowAt_splice_full (c := vcells V.zero) (t := 35) (fr := (0, 0)) HR.out (by simp) (by simp)
    · exact ((below_splice HB.out _ _ _ (by omega)).alloc (by simpa using HB.out.size) _).drew
  | some v =>
    simp only [Option.map_some, Option.getD_some, Option.isSome_some] at *
    go_wp2
    go_region
    go_wp2
    refine bodyPost_ret (results_row_tmp rfl _ _ rowV (g := w.heap.size + 1) (cs := vcells v) rfl ?_) rfl ⟨rfl, ?_⟩
    · rw [rowAt_drew, rowAt_alloc, if_neg (by simpa using hne3)]
      exact rowAt_splice_full (c := vcells V.zero) (t := 35) (fr := (0, 0)) HR.out (by simp) (by simp)
    · exact ((below_splice HB.out _ _ _ (by omega)).alloc (by simpa using HB.out.size) _).drew

set_option maxHeartbeats 400000 in
theorem cmpV_any (x y : V) (hx : 0 ≤ x.depth ∧ x.depth ≤ 4611686018427387903) (hy : 0 ≤ y.depth ∧ y.depth ≤ 4611686018427387903) (w : World) :
    Calls Try.prog 17 #[.agg (vcells x), .agg (vcells y)] w fun e w' => e = .returned (.int .i64 (if x.depth = y.depth then hcmp x.id y.id else x.depth - y.depth)) ∧ ∃ q os, w' = Sort.grow (w.drewN q) os := by
  obtain ⟨h1, h2⟩ := hx
  obtain ⟨h3, h4⟩ := hy
  by_cases hd : x.depth = y.depth
  · have hd' : (x.depth != y.depth) = false := by simpa using hd
    have HD := Lib.hid hd
    clear hd
    go_enter Try.func17, Try.ntmps17
    go_wp2_with fail
    refine (Cmp_any x.id y.id _).mono ?_
    rintro e w' ⟨rfl, q, os, rfl⟩
    go_wp2
    go_ret
    exact ⟨rfl, q, #[.cells (vcells x) 35] ++ #[.cells (vcells y) 35] ++ os, by
      rw [Sort.alloc_eq_grow, Sort.alloc_eq_grow, Sort.grow_grow]
      show Sort.grow (Sort.grow (w.drewN q) _) os = _
      exact Sort.grow_grow _ _ _⟩
  · have hd' : (x.depth != y.depth) = true := by simpa using hd
    have HD := Lib.hid hd
    clear hd
    go_enter Try.func17, Try.ntmps17
    go_wp2
    go_ret
    exact ⟨rfl, 0, #[.cells (vcells x) 35] ++ #[.cells (vcells y) 35], by
      rw [Sort.alloc_eq_grow, Sort.alloc_eq_grow, Sort.grow_grow]; rfl⟩

end Go.Proofs.Ytdmhaajekmaadaa
