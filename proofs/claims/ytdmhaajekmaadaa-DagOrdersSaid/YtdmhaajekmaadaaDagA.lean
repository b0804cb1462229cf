/- Vertices as values of the model: how they lie, how they are read, written, made, held against each other. No condition. -/
import Derived.Test.YtdmhaajekmaadaaProg
import Derived.Test.YtdmhaajekmaadaaKitE
import Derived.Test.YtdmhaajekmaadaaCmp
namespace Go.Proofs.Ytdmhaajekmaadaa
open Go.RowKit

structure V where
  id : H32
  parent : H32
  depth : Int
  data : Int
  deriving DecidableEq

def V.zero : V := ⟨H32.zero, H32.zero, 0, 0⟩
instance : Inhabited V := ⟨V.zero⟩

def vcells (v : V) : Array Value := hcells v.id ++ hcells v.parent ++ #[.int .i64 v.depth, .int .i64 v.data]
@[simp, go_sem] theorem size_vcells (v : V) : (vcells v).size = 66 := by simp [vcells]
@[simp, go_sem] theorem one_vcells (v : V) : allOne (vcells v) = true :=
  allOne_append (allOne_append (one_hcells _) (one_hcells _)) (allOne_mem (by intro x hx; simp at hx; rcases hx with rfl | rfl <;> rfl))
@[simp, go_sem] theorem vcells_64 (v : V) : (vcells v)[64]? = some (.int .i64 v.depth) := by
  unfold vcells; rw [Array.getElem?_append_right (by simp)]; simp
@[simp, go_sem] theorem vcells_65 (v : V) : (vcells v)[65]? = some (.int .i64 v.data) := by
  unfold vcells; rw [Array.getElem?_append_right (by simp)]; simp
@[simp, go_sem] theorem vcells_64' (v : V) (h : 64 < (vcells v).size) : (vcells v)[64]'h = .int .i64 v.depth := by
  have := vcells_64 v; rw [Array.getElem?_eq_getElem h] at this; exact Option.some.inj this
@[simp, go_sem] theorem vcells_65' (v : V) (h : 65 < (vcells v).size) : (vcells v)[65]'h = .int .i64 v.data := by
  have := vcells_65 v; rw [Array.getElem?_eq_getElem h] at this; exact Option.some.inj this
@[simp, go_sem] theorem vcells_id (v : V) : (vcells v).extract 0 32 = hcells v.id := by
  unfold vcells
  apply Array.ext_getElem?; intro i
  simp only [Array.getElem?_extract, Array.getElem?_append, size_hcells, Array.size_append]
  by_cases h : i < 32
  · simp [h, show i < 32 + 32 by omega]
  · simp [h]
@[simp, go_sem] theorem vcells_parent (v : V) : (vcells v).extract 32 64 = hcells v.parent := by
  unfold vcells
  apply Array.ext_getElem?; intro i
  simp only [Array.getElem?_extract, Array.getElem?_append, size_hcells, Array.size_append]
  by_cases h : i < 32
  · simp [h, show 32 + i < 32 + 32 by omega, show ¬ (32 + i < 32) by omega]
  · simp [h]
@[simp, go_sem] theorem vcells_all (v : V) : (vcells v).extract 0 66 = vcells v := extract_all _ _ (by simp)
theorem vcells_inj {a b : V} (h : vcells a = vcells b) : a = b := by
  have h1 := congrArg (fun c => c.extract 0 32) h
  have h2 := congrArg (fun c => c.extract 32 64) h
  have h3 := congrArg (fun c => c[64]?) h
  have h4 := congrArg (fun c => c[65]?) h
  simp only [vcells_id, vcells_parent, vcells_64, vcells_65, Option.some.injEq, Value.int.injEq, true_and] at h1 h2 h3 h4
  cases a; cases b
  simp only [V.mk.injEq]
  exact ⟨hcells_inj h1, hcells_inj h2, h3, h4⟩

theorem getElem?_vcells (v : V) (i : Nat) : (vcells v)[i]? = if i < 32 then (hcells v.id)[i]? else if i < 64 then (hcells v.parent)[i - 32]? else if i = 64 then some (.int .i64 v.depth) else if i = 65 then some (.int .i64 v.data) else none := by
  unfold vcells
  simp only [Array.getElem?_append, size_hcells, Array.size_append]
  by_cases h1 : i < 32
  · simp [h1, show i < 64 by omega]
  · by_cases h2 : i < 64
    · simp [h1, h2]
    · by_cases h3 : i = 64
      · subst h3; simp
      · by_cases h4 : i = 65
        · subst h4; simp
        · simp [h1, h2, h3, h4]; omega
theorem spl_v_id (v : V) (a : H32) : spl (vcells v) 0 (hcells a) = vcells { v with id := a } := by
  apply Array.ext_getElem?; intro i
  rw [getElem?_spl _ _ _ (by simp), getElem?_vcells, getElem?_vcells]
  simp only [size_hcells, Nat.zero_le, true_and, Nat.zero_add, Nat.sub_zero]
  split <;> rfl
theorem spl_v_parent (v : V) (a : H32) : spl (vcells v) 32 (hcells a) = vcells { v with parent := a } := by
  apply Array.ext_getElem?; intro i
  rw [getElem?_spl _ _ _ (by simp), getElem?_vcells, getElem?_vcells]
  simp only [size_hcells]
  by_cases h1 : i < 32
  · rw [if_neg (by omega)]; simp [h1]
  · by_cases h2 : i < 64
    · rw [if_pos (by omega)]; simp [h1, h2]
    · rw [if_neg (by omega)]; simp [h1, h2]
theorem spl_v_depth (v : V) (d : Int) : spl (vcells v) 64 #[.int .i64 d] = vcells { v with depth := d } := by
  apply Array.ext_getElem?; intro i
  rw [getElem?_spl _ _ _ (by simp), getElem?_vcells, getElem?_vcells]
  by_cases h1 : i = 64
  · subst h1; simp
  · rw [if_neg (by simp; omega)]; simp [h1]
theorem spl_v_data (v : V) (d : Int) : spl (vcells v) 65 #[.int .i64 d] = vcells { v with data := d } := by
  apply Array.ext_getElem?; intro i
  rw [getElem?_spl _ _ _ (by simp), getElem?_vcells, getElem?_vcells]
  by_cases h1 : i = 65
  · subst h1; simp
  · rw [if_neg (by simp; omega)]; simp [h1]

theorem vblock {w : World} {b : Nat} {v : V} {T : TypeId} (h : w.heap[b]? = some (.cells (vcells v) T)) :
    rowAt w b 0 66 = some (vcells v) ∧ rowAt w b 0 32 = some (hcells v.id) ∧ rowAt w b 32 32 = some (hcells v.parent) ∧ w.cell? ⟨b, 64, none⟩ = some (.int .i64 v.depth) ∧ w.cell? ⟨b, 65, none⟩ = some (.int .i64 v.data) ∧ canPut w b 0 66 = true := by
  refine ⟨?_, ?_, ?_, ?_, ?_, ?_⟩
  · rw [rowAt_of h 0 66 (by simp)]; simp
  · rw [rowAt_of h 0 32 (by simp)]; simp
  · rw [rowAt_of h 32 32 (by simp)]; simp
  · exact (cell_of_row w b 64 _ T _ h).trans (vcells_64 v)
  · exact (cell_of_row w b 65 _ T _ h).trans (vcells_65 v)
  · exact canPut_of h 0 66 (by simp)

theorem rowH : RowType Try.prog 32 32 := ⟨Try.isAgg32, Try.sizeOf32⟩
theorem rowV : RowType Try.prog 35 66 := ⟨Try.isAgg35, Try.sizeOf35⟩
theorem rowR : RowType Try.prog 34 66 := ⟨Try.isAgg34, Try.sizeOf34⟩

@[go_sem] theorem zeroH (w : World) : (zeroValue 32).run Try.prog w = .ok (.agg (hcells H32.zero)) w := by kernel_rfl
@[go_sem] theorem zeroV (w : World) : (zeroValue 35).run Try.prog w = .ok (.agg (vcells V.zero)) w := by kernel_rfl
@[go_sem] theorem zeroR (w : World) : (zeroValue 34).run Try.prog w = .ok (.agg (vcells V.zero)) w := by kernel_rfl

section laws
variable (w : World) (b o : Nat)
@[go_sem ↓] theorem ldH (v : Value) : Instr.loadAt 32 v = ldRow 32 v := rfl
@[go_sem] theorem loadH : (ldRow 32 (.pointer (some ⟨b, o, none⟩))).run Try.prog w = (rowAt w b o 32).elim (badLoad Try.prog 32 w b o) (fun cs => .ok (.agg cs) w) := run_loadAt_row rowH w b o
@[go_sem ↓] theorem ldV (v : Value) : Instr.loadAt 35 v = ldRow 35 v := rfl
@[go_sem] theorem loadV : (ldRow 35 (.pointer (some ⟨b, o, none⟩))).run Try.prog w = (rowAt w b o 66).elim (badLoad Try.prog 35 w b o) (fun cs => .ok (.agg cs) w) := run_loadAt_row rowV w b o
@[go_sem ↓] theorem ldR (v : Value) : Instr.loadAt 34 v = ldRow 34 v := rfl
@[go_sem] theorem loadR : (ldRow 34 (.pointer (some ⟨b, o, none⟩))).run Try.prog w = (rowAt w b o 66).elim (badLoad Try.prog 34 w b o) (fun cs => .ok (.agg cs) w) := run_loadAt_row rowR w b o
@[go_sem ↓] theorem stV (a v : Value) : Instr.storeAt 35 a v = stRow 35 a v := rfl
@[go_sem] theorem storeV (cs : Array Value) : (stRow 35 (.pointer (some ⟨b, o, none⟩)) (.agg cs)).run Try.prog w = if cs.size = 66 ∧ allOne cs = true ∧ canPut w b o 66 = true then .ok () (splice w b o cs) else badStore Try.prog 35 w b o cs := run_storeAt_row rowV w b o cs
@[go_sem ↓] theorem stR (a v : Value) : Instr.storeAt 34 a v = stRow 34 a v := rfl
@[go_sem] theorem storeR (cs : Array Value) : (stRow 34 (.pointer (some ⟨b, o, none⟩)) (.agg cs)).run Try.prog w = if cs.size = 66 ∧ allOne cs = true ∧ canPut w b o 66 = true then .ok () (splice w b o cs) else badStore Try.prog 34 w b o cs := run_storeAt_row rowR w b o cs
@[go_sem ↓] theorem allocV : (Instr.alloc 35 true (.tuple #[])).run Try.prog w = .ok (.pointer (some ⟨w.heap.size, 0, none⟩)) (w.alloc (.cells (vcells V.zero) 35)) := by
  simp only [Instr.alloc, Sem.run_bind, zeroV, Result.andThen_ok]; rfl
@[go_sem ↓] theorem allocR : (Instr.alloc 34 true (.tuple #[])).run Try.prog w = .ok (.pointer (some ⟨w.heap.size, 0, none⟩)) (w.alloc (.cells (vcells V.zero) 34)) := by
  simp only [Instr.alloc, Sem.run_bind, zeroR, Result.andThen_ok]; rfl
@[go_sem] theorem spl_vv (a c : V) : spl (vcells a) 0 (vcells c) = vcells c := spl_full _ _ (by simp)

@[go_sem ↓] theorem eqlH (x y : H32) : (binOp .eql 32 (.agg (hcells x)) (.agg (hcells y))).run Try.prog w = .ok (.bool (decide (x = y))) w := by
  rw [run_eql_struct, run_eql_hash Try.underlying32 Try.underlying5 Try.sizeOf5]; rfl
@[go_sem ↓] theorem guardH (op : BinOp) (p q : Operand) (x y : Array Value) : (eqGuard op 32 p q (.agg x) (.agg y)).run Try.prog w = .ok () w := run_eqGuard_agg w op _ p q x y (by kernel_rfl)
@[go_sem ↓] theorem guardV (op : BinOp) (p q : Operand) (x y : Array Value) : (eqGuard op 35 p q (.agg x) (.agg y)).run Try.prog w = .ok () w := run_eqGuard_agg w op _ p q x y (by kernel_rfl)
@[go_sem ↓] theorem bdV (ps : Array (Nat × Value)) : Instr.build 35 ps = bdRow 35 ps := rfl
@[go_sem] theorem buildV0 : (bdRow 35 #[]).run Try.prog w = .ok (.agg (vcells V.zero)) w := by
  simp only [bdRow, Instr.build, Sem.run_bind, zeroV, Result.andThen_ok, run_underlying Try.underlying35, Value.cells]
  simp [Try.sizeOf32, Try.sizeOf3, Instr.fill]
@[go_sem] theorem buildV3 (a c : H32) (d : Int) : (bdRow 35 #[(0, .agg (hcells a)), (1, .agg (hcells c)), (2, .int .i64 d)]).run Try.prog w = .ok (.agg (vcells ⟨a, c, d, 0⟩)) w := by
  simp only [bdRow, Instr.build, Sem.run_bind, zeroV, Result.andThen_ok, run_underlying Try.underlying35, Value.cells]
  simp [Try.sizeOf32, Try.sizeOf3]
  rw [fill_cons _ _ _ _ _ 0 32 rfl (by simp [Value.cells]) (by simp)]
  simp only [Value.cells, spl_v_id]
  rw [fill_cons _ _ _ _ _ 32 32 rfl (by simp [Value.cells]) (by simp)]
  simp only [Value.cells, spl_v_parent]
  rw [fill_cons _ _ _ _ _ 64 1 rfl (by simp [Value.cells]) (by simp)]
  simp only [Value.cells, spl_v_depth]
  simp [Instr.fill, V.zero]
@[go_sem] theorem buildV4 (a c : H32) (d e : Int) : (bdRow 35 #[(0, .agg (hcells a)), (1, .agg (hcells c)), (2, .int .i64 d), (3, .int .i64 e)]).run Try.prog w = .ok (.agg (vcells ⟨a, c, d, e⟩)) w := by
  simp only [bdRow, Instr.build, Sem.run_bind, zeroV, Result.andThen_ok, run_underlying Try.underlying35, Value.cells]
  simp [Try.sizeOf32, Try.sizeOf3]
  rw [fill_cons _ _ _ _ _ 0 32 rfl (by simp [Value.cells]) (by simp)]
  simp only [Value.cells, spl_v_id]
  rw [fill_cons _ _ _ _ _ 32 32 rfl (by simp [Value.cells]) (by simp)]
  simp only [Value.cells, spl_v_parent]
  rw [fill_cons _ _ _ _ _ 64 1 rfl (by simp [Value.cells]) (by simp)]
  simp only [Value.cells, spl_v_depth]
  rw [fill_cons _ _ _ _ _ 65 1 rfl (by simp [Value.cells]) (by simp)]
  simp only [Value.cells, spl_v_data]
  simp [Instr.fill]
end laws

end Go.Proofs.Ytdmhaajekmaadaa
