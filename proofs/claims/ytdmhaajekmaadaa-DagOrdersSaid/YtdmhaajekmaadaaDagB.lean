/- The store of vertices: what New, Len, Head, Floor, Get answer. No condition but that the store lies as New and Insert lay it. -/
import Derived.Test.YtdmhaajekmaadaaDagA
namespace Go.Proofs.Ytdmhaajekmaadaa
open Go.RowKit

/-- Block bs is a store that keeps so many depths, whose map is block bm, with the vertices l. -/
structure St (w : World) (bs bm : Nat) (keep : Int) (l : List V) : Prop where
  blk : w.heap[bs]? = some (.cells #[.int .i64 keep, .map (some bm)] 48)
  map : World.mapE hval w bm (l.map fun v => (v.id, Value.agg (vcells v)))

theorem St.c0 {w : World} {bs bm : Nat} {keep : Int} {l : List V} (h : St w bs bm keep l) : w.cell? ⟨bs, 0, none⟩ = some (.int .i64 keep) := by
  simp [World.cell?, h.blk]
theorem St.c1 {w : World} {bs bm : Nat} {keep : Int} {l : List V} (h : St w bs bm keep l) : w.cell? ⟨bs, 1, none⟩ = some (.map (some bm)) := by
  simp [World.cell?, h.blk]
theorem St.lt {w : World} {bs bm : Nat} {keep : Int} {l : List V} (h : St w bs bm keep l) : bs < w.heap.size := (Array.getElem?_eq_some_iff.1 h.blk).1
theorem St.ltm {w : World} {bs bm : Nat} {keep : Int} {l : List V} (h : St w bs bm keep l) : bm < w.heap.size := by
  obtain ⟨es, c, hb, _⟩ := h.map
  exact (Array.getElem?_eq_some_iff.1 hb).1
theorem St.ne {w : World} {bs bm : Nat} {keep : Int} {l : List V} (h : St w bs bm keep l) : bs ≠ bm := by
  obtain ⟨es, c, hb, _⟩ := h.map
  rintro rfl
  have := h.blk
  rw [hb] at this
  cases this
theorem St.below {B : Nat} {w w' : World} {bs bm : Nat} {keep : Int} {l : List V} (h : St w bs bm keep l) (hb : Below B w w') (h1 : bs < B) (h2 : bm < B) : St w' bs bm keep l := by
  refine ⟨(hb.block bs h1).trans h.blk, ?_⟩
  obtain ⟨es, c, he, hm⟩ := h.map
  exact ⟨es, c, (hb.block bm h2).trans he, hm⟩
theorem St.later {w w' : World} {bs bm : Nat} {keep : Int} {l : List V} (h : St w bs bm keep l) (hb : Below w.heap.size w w') : St w' bs bm keep l := h.below hb h.lt h.ltm

theorem keyH : KeyE Try.prog 32 hval := keyE_hash Try.underlying32 Try.underlying5 Try.sizeOf5

@[go_sem ↓] theorem lookupV (w : World) (b : Nat) (k : H32) (ok : Bool) : (Instr.lookup 46 (.map (some b)) (.agg (hcells k)) ok).run Try.prog w =
    (mapOf hval w b).elim (badLookup Try.prog 46 w b (hval k) ok) fun l => .ok (lkRes ok (get? k l) (.agg (vcells V.zero))) w :=
  run_lookup_map (enc := hval) keyH Try.underlying46 zeroV w b k ok

theorem St.mapOf {w : World} {bs bm : Nat} {keep : Int} {l : List V} (h : St w bs bm keep l) : mapOf hval w bm = some (l.map fun v => (v.id, Value.agg (vcells v))) := mapOf_eq keyH.inj h.map

set_option maxHeartbeats 400000 in
theorem Len_any (bs bm : Nat) (keep : Int) (l : List V) (w : World) (h : St w bs bm keep l) :
    Calls Try.prog 11 #[.pointer (some ⟨bs, 0, none⟩)] w fun e w' => e = .returned (.int .i64 l.length) ∧ w' = w := by
  have hlen : (Builtin.len_ #[46] 3 #[.map (some bm)]).run Try.prog w = .ok (.int .i64 l.length) w := by
    have := run_len_map (P := Try.prog) (MT := 46) Try.underlying46 h.map 3
    simpa using this
  have c1 := h.c1
  clear h
  go_enter Try.func11, Try.ntmps11
  go_wp2
  go_ret
  exact ⟨rfl, rfl⟩

set_option maxHeartbeats 400000 in
/-- New(keep), keep being 1 to MaxKeep: an empty store. -/
theorem New_ok (keep : Int) (h1 : 1 ≤ keep) (h2 : keep ≤ 64) (w : World) :
    Calls Try.prog 6 #[.int .i64 keep] w fun e w' => e = .returned (.tuple #[.pointer (some ⟨w.heap.size + 1, 0, none⟩), .int .i64 0]) ∧ St w' (w.heap.size + 1) w.heap.size keep [] ∧ Below w.heap.size w w' := by
  go_enter Try.func6, Try.ntmps6
  go_wp2
  go_ret2
  exact ⟨rfl, ⟨by rw [heap_alloc, if_pos (by simp)], ⟨#[], 0, by rw [heap_alloc, if_neg (by simp), heap_alloc, if_pos rfl], rfl, by simp, by simp⟩⟩, ((Below.refl _ _).alloc (Nat.le_refl _) _).alloc (by simp) _⟩

end Go.Proofs.Ytdmhaajekmaadaa
